/- SameRec, both. -/
import Derived.Test.YtogdbjalgledpaaEqStr
namespace Go.Proofs.Ytogdbjalgledpaa
open Go.RowKit

theorem recd_eq (x y : RecD) : pB (x = y) = (((((decide (x.Kind = y.Kind) && decide (x.Txn = y.Txn)) && decide (x.Time = y.Time)) && decide (x.Lead = y.Lead)) && decide (x.Yes = y.Yes)) && (pB (x.Reads = y.Reads) && pB (x.Writes = y.Writes))) := by
  refine pB_eq ?_
  obtain ⟨K, T, Ti, L, R, W, Y⟩ := x
  obtain ⟨K', T', Ti', L', R', W', Y'⟩ := y
  simp only [RecD.mk.injEq, Bool.and_eq_true, decide_eq_true_eq, pB_iff]
  constructor
  · rintro ⟨a, b, c, d, e, f, g⟩
    exact ⟨⟨⟨⟨⟨a, b⟩, c⟩, d⟩, g⟩, e, f⟩
  · rintro ⟨⟨⟨⟨⟨a, b⟩, c⟩, d⟩, g⟩, e, f⟩
    exact ⟨a, b, c, d, e, f, g⟩

set_option maxRecDepth 100000 in
set_option maxHeartbeats 3200000 in
/-- impl.SameRec -/
theorem sameRec_any (x y : RecD) (hx1 : x.Reads.length ≤ 1048576) (hx2 : x.Writes.length ≤ 1048576) (hy1 : y.Reads.length ≤ 1048576) (hy2 : y.Writes.length ≤ 1048576) (w : World) (ur uw vr vw : Value)
    (rr : Rd Cod.str w ur x.Reads) (rw_ : Rd Cod.write w uw x.Writes) (sr : Rd Cod.str w vr y.Reads) (sw : Rd Cod.write w vw y.Writes) :
    Calls Try.prog 134 #[.agg #[.int .i64 x.Kind, .int .i64 x.Txn, .int .i64 x.Time, .int .i64 x.Lead, ur, uw, .bool x.Yes], .agg #[.int .i64 y.Kind, .int .i64 y.Txn, .int .i64 y.Time, .int .i64 y.Lead, vr, vw, .bool y.Yes]] w fun e w' => e = .returned (.bool (pB (x = y))) ∧ Below w.heap.size w w' := by
  have Hq := Lib.hid (recd_eq x y)
  have Hr := Lib.hid (fun (W : World) (r1 : Rd Cod.str W ur x.Reads) (r2 : Rd Cod.str W vr y.Reads) => equalString_any ur vr x.Reads y.Reads hx1 hy1 W r1 r2)
  have Hw := Lib.hid (fun (W : World) (r1 : Rd Cod.write W uw x.Writes) (r2 : Rd Cod.write W vw y.Writes) => equalWrite_any uw vw x.Writes y.Writes hx2 hy2 W r1 r2)
  clear hx1 hx2 hy1 hy2
  generalize pB (x = y) = q at *
  obtain ⟨K, T, Ti, L, R, W, Y⟩ := x
  obtain ⟨K', T', Ti', L', R', W', Y'⟩ := y
  simp only at *
  generalize pB (R = R') = qr at *
  generalize pB (W = W') = qw at *
  have Hrr := Lib.hid rr
  have Hrw := Lib.hid rw_
  have Hsr := Lib.hid sr
  have Hsw := Lib.hid sw
  clear rr rw_ sr sw
  by_cases h0 : K = K'
  rotate_left
  · have Hf : Hid (q = false) := Lib.hid (by rw [Hq.out]; simp [h0])
    go_enter Try.func134, Try.ntmps134
    go_wp2
    go_ret
    exact ⟨ret_bool (by rw [Hf.out]), by (repeat (first | (with_reducible exact Below.refl _ _) | (with_reducible refine below_setCell ?_ (by first | (simp; done) | (simp; omega) | omega)) | (with_reducible refine below_alloc _ ?_) | (with_reducible refine below_drewN ?_ _) | (with_reducible assumption) | (with_reducible refine below_after (by assumption) ?_)))⟩
  subst h0
  by_cases h1 : T = T'
  rotate_left
  · have Hf : Hid (q = false) := Lib.hid (by rw [Hq.out]; simp [h1])
    go_enter Try.func134, Try.ntmps134
    go_wp2
    go_ret
    exact ⟨ret_bool (by rw [Hf.out]), by (repeat (first | (with_reducible exact Below.refl _ _) | (with_reducible refine below_setCell ?_ (by first | (simp; done) | (simp; omega) | omega)) | (with_reducible refine below_alloc _ ?_) | (with_reducible refine below_drewN ?_ _) | (with_reducible assumption) | (with_reducible refine below_after (by assumption) ?_)))⟩
  subst h1
  by_cases h2 : Ti = Ti'
  rotate_left
  · have Hf : Hid (q = false) := Lib.hid (by rw [Hq.out]; simp [h2])
    go_enter Try.func134, Try.ntmps134
    go_wp2
    go_ret
    exact ⟨ret_bool (by rw [Hf.out]), by (repeat (first | (with_reducible exact Below.refl _ _) | (with_reducible refine below_setCell ?_ (by first | (simp; done) | (simp; omega) | omega)) | (with_reducible refine below_alloc _ ?_) | (with_reducible refine below_drewN ?_ _) | (with_reducible assumption) | (with_reducible refine below_after (by assumption) ?_)))⟩
  subst h2
  by_cases h3 : L = L'
  rotate_left
  · have Hf : Hid (q = false) := Lib.hid (by rw [Hq.out]; simp [h3])
    go_enter Try.func134, Try.ntmps134
    go_wp2
    go_ret
    exact ⟨ret_bool (by rw [Hf.out]), by (repeat (first | (with_reducible exact Below.refl _ _) | (with_reducible refine below_setCell ?_ (by first | (simp; done) | (simp; omega) | omega)) | (with_reducible refine below_alloc _ ?_) | (with_reducible refine below_drewN ?_ _) | (with_reducible assumption) | (with_reducible refine below_after (by assumption) ?_)))⟩
  subst h3
  by_cases h4 : Y = Y'
  rotate_left
  · have Hf : Hid (q = false) := Lib.hid (by rw [Hq.out]; simp [h4])
    have h5 : Y' = !Y := by revert h4; cases Y <;> cases Y' <;> simp
    subst h5
    cases Y
    all_goals
      go_enter Try.func134, Try.ntmps134
      go_wp2
      go_ret
      exact ⟨ret_bool (by rw [Hf.out]), by (repeat (first | (with_reducible exact Below.refl _ _) | (with_reducible refine below_setCell ?_ (by first | (simp; done) | (simp; omega) | omega)) | (with_reducible refine below_alloc _ ?_) | (with_reducible refine below_drewN ?_ _) | (with_reducible assumption) | (with_reducible refine below_after (by assumption) ?_)))⟩
  subst h4
  have Hf : Hid (q = (qr && qw)) := Lib.hid (by rw [Hq.out]; simp)
  clear Hq
  cases qr
  · go_enter Try.func134, Try.ntmps134
    go_wp2_with fail
    refine (Hr.out _ (Hrr.out.below (by (repeat (first | (with_reducible exact Below.refl _ _) | (with_reducible refine below_setCell ?_ (by first | (simp; done) | (simp; omega) | omega)) | (with_reducible refine below_alloc _ ?_) | (with_reducible refine below_drewN ?_ _) | (with_reducible assumption) | (with_reducible refine below_after (by assumption) ?_))))) (Hsr.out.below (by (repeat (first | (with_reducible exact Below.refl _ _) | (with_reducible refine below_setCell ?_ (by first | (simp; done) | (simp; omega) | omega)) | (with_reducible refine below_alloc _ ?_) | (with_reducible refine below_drewN ?_ _) | (with_reducible assumption) | (with_reducible refine below_after (by assumption) ?_)))))).mono ?_
    rintro e w1 ⟨rfl, k1⟩
    go_wp2
    go_ret
    exact ⟨ret_bool (by rw [Hf.out]; rfl), by (repeat (first | (with_reducible exact Below.refl _ _) | (with_reducible refine below_setCell ?_ (by first | (simp; done) | (simp; omega) | omega)) | (with_reducible refine below_alloc _ ?_) | (with_reducible refine below_drewN ?_ _) | (with_reducible assumption) | (with_reducible refine below_after (by assumption) ?_)))⟩
  · go_enter Try.func134, Try.ntmps134
    go_wp2_with fail
    refine (Hr.out _ (Hrr.out.below (by (repeat (first | (with_reducible exact Below.refl _ _) | (with_reducible refine below_setCell ?_ (by first | (simp; done) | (simp; omega) | omega)) | (with_reducible refine below_alloc _ ?_) | (with_reducible refine below_drewN ?_ _) | (with_reducible assumption) | (with_reducible refine below_after (by assumption) ?_))))) (Hsr.out.below (by (repeat (first | (with_reducible exact Below.refl _ _) | (with_reducible refine below_setCell ?_ (by first | (simp; done) | (simp; omega) | omega)) | (with_reducible refine below_alloc _ ?_) | (with_reducible refine below_drewN ?_ _) | (with_reducible assumption) | (with_reducible refine below_after (by assumption) ?_)))))).mono ?_
    rintro e w1 ⟨rfl, k1⟩
    have b1 : Below w.heap.size w w1 := below_after k1 (by (repeat (first | (with_reducible exact Below.refl _ _) | (with_reducible refine below_setCell ?_ (by first | (simp; done) | (simp; omega) | omega)) | (with_reducible refine below_alloc _ ?_) | (with_reducible refine below_drewN ?_ _) | (with_reducible assumption) | (with_reducible refine below_after (by assumption) ?_))))
    have hx := bcell k1
    have q0 : w.heap.size < w1.heap.size := by have := k1.size; simp at this; omega
    have q1 : w.heap.size + 1 < w1.heap.size := by have := k1.size; simp at this; omega
    go_wp2_with fail
    refine (Hw.out _ (Hrw.out.below b1) (Hsw.out.below b1)).mono ?_
    rintro e w2 ⟨rfl, k2⟩
    go_wp2
    go_ret
    exact ⟨ret_bool (by rw [Hf.out]; rfl), below_after k2 b1⟩

set_option maxRecDepth 100000 in
set_option maxHeartbeats 3200000 in
/-- spec.SameRec -/
theorem sameRecS_any (x y : RecD) (hx1 : x.Reads.length ≤ 1048576) (hx2 : x.Writes.length ≤ 1048576) (hy1 : y.Reads.length ≤ 1048576) (hy2 : y.Writes.length ≤ 1048576) (w : World) (ur uw vr vw : Value)
    (rr : Rd Cod.str w ur x.Reads) (rw_ : Rd Cod.write w uw x.Writes) (sr : Rd Cod.str w vr y.Reads) (sw : Rd Cod.write w vw y.Writes) :
    Calls Try.prog 79 #[.agg #[.int .i64 x.Kind, .int .i64 x.Txn, .int .i64 x.Time, .int .i64 x.Lead, ur, uw, .bool x.Yes], .agg #[.int .i64 y.Kind, .int .i64 y.Txn, .int .i64 y.Time, .int .i64 y.Lead, vr, vw, .bool y.Yes]] w fun e w' => e = .returned (.bool (pB (x = y))) ∧ Below w.heap.size w w' := by
  have Hq := Lib.hid (recd_eq x y)
  have Hr := Lib.hid (fun (W : World) (r1 : Rd Cod.str W ur x.Reads) (r2 : Rd Cod.str W vr y.Reads) => l1SameS_any ur vr x.Reads y.Reads hx1 hy1 W r1 r2)
  have Hw := Lib.hid (fun (W : World) (r1 : Rd Cod.write W uw x.Writes) (r2 : Rd Cod.write W vw y.Writes) => l4SameW_any uw vw x.Writes y.Writes hx2 hy2 W r1 r2)
  clear hx1 hx2 hy1 hy2
  generalize pB (x = y) = q at *
  obtain ⟨K, T, Ti, L, R, W, Y⟩ := x
  obtain ⟨K', T', Ti', L', R', W', Y'⟩ := y
  simp only at *
  generalize pB (R = R') = qr at *
  generalize pB (W = W') = qw at *
  have Hrr := Lib.hid rr
  have Hrw := Lib.hid rw_
  have Hsr := Lib.hid sr
  have Hsw := Lib.hid sw
  clear rr rw_ sr sw
  by_cases h0 : K = K'
  rotate_left
  · have Hf : Hid (q = false) := Lib.hid (by rw [Hq.out]; simp [h0])
    go_enter Try.func79, Try.ntmps79
    go_wp2
    go_ret
    exact ⟨ret_bool (by rw [Hf.out]), by (repeat (first | (with_reducible exact Below.refl _ _) | (with_reducible refine below_setCell ?_ (by first | (simp; done) | (simp; omega) | omega)) | (with_reducible refine below_alloc _ ?_) | (with_reducible refine below_drewN ?_ _) | (with_reducible assumption) | (with_reducible refine below_after (by assumption) ?_)))⟩
  subst h0
  by_cases h1 : T = T'
  rotate_left
  · have Hf : Hid (q = false) := Lib.hid (by rw [Hq.out]; simp [h1])
    go_enter Try.func79, Try.ntmps79
    go_wp2
    go_ret
    exact ⟨ret_bool (by rw [Hf.out]), by (repeat (first | (with_reducible exact Below.refl _ _) | (with_reducible refine below_setCell ?_ (by first | (simp; done) | (simp; omega) | omega)) | (with_reducible refine below_alloc _ ?_) | (with_reducible refine below_drewN ?_ _) | (with_reducible assumption) | (with_reducible refine below_after (by assumption) ?_)))⟩
  subst h1
  by_cases h2 : Ti = Ti'
  rotate_left
  · have Hf : Hid (q = false) := Lib.hid (by rw [Hq.out]; simp [h2])
    go_enter Try.func79, Try.ntmps79
    go_wp2
    go_ret
    exact ⟨ret_bool (by rw [Hf.out]), by (repeat (first | (with_reducible exact Below.refl _ _) | (with_reducible refine below_setCell ?_ (by first | (simp; done) | (simp; omega) | omega)) | (with_reducible refine below_alloc _ ?_) | (with_reducible refine below_drewN ?_ _) | (with_reducible assumption) | (with_reducible refine below_after (by assumption) ?_)))⟩
  subst h2
  by_cases h3 : L = L'
  rotate_left
  · have Hf : Hid (q = false) := Lib.hid (by rw [Hq.out]; simp [h3])
    go_enter Try.func79, Try.ntmps79
    go_wp2
    go_ret
    exact ⟨ret_bool (by rw [Hf.out]), by (repeat (first | (with_reducible exact Below.refl _ _) | (with_reducible refine below_setCell ?_ (by first | (simp; done) | (simp; omega) | omega)) | (with_reducible refine below_alloc _ ?_) | (with_reducible refine below_drewN ?_ _) | (with_reducible assumption) | (with_reducible refine below_after (by assumption) ?_)))⟩
  subst h3
  by_cases h4 : Y = Y'
  rotate_left
  · have Hf : Hid (q = false) := Lib.hid (by rw [Hq.out]; simp [h4])
    have h5 : Y' = !Y := by revert h4; cases Y <;> cases Y' <;> simp
    subst h5
    cases Y
    all_goals
      go_enter Try.func79, Try.ntmps79
      go_wp2
      go_ret
      exact ⟨ret_bool (by rw [Hf.out]), by (repeat (first | (with_reducible exact Below.refl _ _) | (with_reducible refine below_setCell ?_ (by first | (simp; done) | (simp; omega) | omega)) | (with_reducible refine below_alloc _ ?_) | (with_reducible refine below_drewN ?_ _) | (with_reducible assumption) | (with_reducible refine below_after (by assumption) ?_)))⟩
  subst h4
  have Hf : Hid (q = (qr && qw)) := Lib.hid (by rw [Hq.out]; simp)
  clear Hq
  cases qr
  · go_enter Try.func79, Try.ntmps79
    go_wp2_with fail
    refine (Hr.out _ (Hrr.out.below (by (repeat (first | (with_reducible exact Below.refl _ _) | (with_reducible refine below_setCell ?_ (by first | (simp; done) | (simp; omega) | omega)) | (with_reducible refine below_alloc _ ?_) | (with_reducible refine below_drewN ?_ _) | (with_reducible assumption) | (with_reducible refine below_after (by assumption) ?_))))) (Hsr.out.below (by (repeat (first | (with_reducible exact Below.refl _ _) | (with_reducible refine below_setCell ?_ (by first | (simp; done) | (simp; omega) | omega)) | (with_reducible refine below_alloc _ ?_) | (with_reducible refine below_drewN ?_ _) | (with_reducible assumption) | (with_reducible refine below_after (by assumption) ?_)))))).mono ?_
    rintro e w1 ⟨rfl, k1⟩
    go_wp2
    go_ret
    exact ⟨ret_bool (by rw [Hf.out]; rfl), by (repeat (first | (with_reducible exact Below.refl _ _) | (with_reducible refine below_setCell ?_ (by first | (simp; done) | (simp; omega) | omega)) | (with_reducible refine below_alloc _ ?_) | (with_reducible refine below_drewN ?_ _) | (with_reducible assumption) | (with_reducible refine below_after (by assumption) ?_)))⟩
  · go_enter Try.func79, Try.ntmps79
    go_wp2_with fail
    refine (Hr.out _ (Hrr.out.below (by (repeat (first | (with_reducible exact Below.refl _ _) | (with_reducible refine below_setCell ?_ (by first | (simp; done) | (simp; omega) | omega)) | (with_reducible refine below_alloc _ ?_) | (with_reducible refine below_drewN ?_ _) | (with_reducible assumption) | (with_reducible refine below_after (by assumption) ?_))))) (Hsr.out.below (by (repeat (first | (with_reducible exact Below.refl _ _) | (with_reducible refine below_setCell ?_ (by first | (simp; done) | (simp; omega) | omega)) | (with_reducible refine below_alloc _ ?_) | (with_reducible refine below_drewN ?_ _) | (with_reducible assumption) | (with_reducible refine below_after (by assumption) ?_)))))).mono ?_
    rintro e w1 ⟨rfl, k1⟩
    have b1 : Below w.heap.size w w1 := below_after k1 (by (repeat (first | (with_reducible exact Below.refl _ _) | (with_reducible refine below_setCell ?_ (by first | (simp; done) | (simp; omega) | omega)) | (with_reducible refine below_alloc _ ?_) | (with_reducible refine below_drewN ?_ _) | (with_reducible assumption) | (with_reducible refine below_after (by assumption) ?_))))
    have hx := bcell k1
    have q0 : w.heap.size < w1.heap.size := by have := k1.size; simp at this; omega
    have q1 : w.heap.size + 1 < w1.heap.size := by have := k1.size; simp at this; omega
    go_wp2_with fail
    refine (Hw.out _ (Hrw.out.below b1) (Hsw.out.below b1)).mono ?_
    rintro e w2 ⟨rfl, k2⟩
    go_wp2
    go_ret
    exact ⟨ret_bool (by rw [Hf.out]; rfl), below_after k2 b1⟩

end Go.Proofs.Ytogdbjalgledpaa
