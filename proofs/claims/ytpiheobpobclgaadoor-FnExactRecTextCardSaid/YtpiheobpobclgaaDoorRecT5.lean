/- RecText, both. Printed by mkrect.py. -/
import Derived.Test.YtpiheobpobclgaaDoorRecT3
import Derived.Test.YtpiheobpobclgaaDoorRecT4
namespace Go.Proofs.YtpiheobpobclgaaDoor
open Go.RowKit

theorem goodRB_bounds {x : RecD} (h : goodRB x = true) : (0 ≤ x.Kind ∧ x.Kind ≤ 4) ∧ (0 ≤ x.Txn ∧ x.Txn ≤ 60) ∧ (0 ≤ x.Time ∧ x.Time ≤ 100000) ∧ 0 ≤ x.Lead ∧ x.Lead ≤ 3 := by
  rcases rec_kinds x.Kind with k | k | k | k
  · rw [goodRB_1 k] at h
    unfold prepB at h
    simp only [Bool.and_eq_true, inB_iff] at h
    obtain ⟨h1, h2, h3, _⟩ := h
    omega
  · rw [goodRB_2 k] at h
    unfold doneB bareB at h
    simp only [Bool.and_eq_true, inB_iff, decide_eq_true_eq] at h
    obtain ⟨⟨h1, _⟩, h2, h3⟩ := h
    cases hy : x.Yes
    · rw [hy] at h3
      have h4 : x.Time = 0 := by simpa using h3
      omega
    · rw [hy] at h3
      have h4 := inB_iff.1 (show inB x.Time 1 100000 = true from h3)
      omega
  · rw [goodRB_4 k] at h
    unfold floorB bareB at h
    simp only [Bool.and_eq_true, inB_iff, decide_eq_true_eq] at h
    obtain ⟨⟨h1, _⟩, h2, h3, _⟩ := h
    omega
  · rw [goodRB_no k] at h
    cases h

/-- impl.recText, of a good record. -/
theorem recText_any {x : RecD} (hg : goodRB x = true) (hc : costRec x ≤ 1048576) (w : World) (hTab : TabW w) (pr pw : Option Addr) (cr cw : Nat) (rR : Rd Cod.str w (.slice pr x.Reads.length cr) x.Reads) (rW : Rd Cod.write w (.slice pw x.Writes.length cw) x.Writes) :
    Calls Tryd.prog 39 #[.agg #[.int .i64 x.Kind, .int .i64 x.Txn, .int .i64 x.Time, .int .i64 x.Lead, .slice pr x.Reads.length cr, .slice pw x.Writes.length cw, .bool x.Yes]] w fun e w' => e = .returned (.string (recT x.Kind x.Txn.toNat x.Time.toNat x.Lead.toNat x.Reads x.Writes)) ∧ Below w.heap.size w w' := by
  have hR : costStringS x.Reads ≤ 1048576 := by unfold costRec at hc; omega
  have hW : costWriteS x.Writes ≤ 1048576 := by unfold costRec at hc; omega
  obtain ⟨_, ⟨b2, b3⟩, ⟨b4, b5⟩, b6, b7⟩ := goodRB_bounds hg
  clear hc
  obtain ⟨K, T, Ti, L, R, Wr, Y⟩ := x
  simp only at *
  obtain ⟨T, rfl⟩ := Int.eq_ofNat_of_zero_le b2
  obtain ⟨Ti, rfl⟩ := Int.eq_ofNat_of_zero_le b4
  obtain ⟨L, rfl⟩ := Int.eq_ofNat_of_zero_le b6
  simp only [Int.toNat_natCast]
  have bare : bareB L R.length Wr.length = true → R = [] ∧ Wr = [] := fun h => by
    unfold bareB at h
    simp only [Bool.and_eq_true, decide_eq_true_eq] at h
    exact ⟨List.eq_nil_of_length_eq_zero h.2.1, List.eq_nil_of_length_eq_zero h.2.2⟩
  rcases rec_kinds K with k | k | k | k
  · rw [goodRB_1 k] at hg
    unfold prepB at hg
    simp only [Bool.and_eq_true, inB_iff] at hg
    subst k
    exact recText_1 T Ti L R Wr (by omega) (by omega) (by omega) (by omega) w hTab pr pw cr cw Y hR hW rR rW
  · rw [goodRB_2 k] at hg
    unfold doneB at hg
    simp only [Bool.and_eq_true, inB_iff] at hg
    obtain ⟨h1, _, h3⟩ := hg
    obtain ⟨rfl, rfl⟩ := bare h1
    cases Y
    · have h4 : (Ti : Int) = 0 := by simpa using h3
      rcases k with rfl | rfl
      · exact recText_2n T Ti L (by omega) (by omega) (by omega) (by omega) w hTab pr pw cr cw false
      · exact recText_3n T Ti L (by omega) (by omega) (by omega) (by omega) w hTab pr pw cr cw false
    · have h4 := inB_iff.1 (show inB (Ti : Int) 1 100000 = true from h3)
      rcases k with rfl | rfl
      · exact recText_2y T Ti L (by omega) (by omega) (by omega) (by omega) w hTab pr pw cr cw true
      · exact recText_3y T Ti L (by omega) (by omega) (by omega) (by omega) w hTab pr pw cr cw true
  · rw [goodRB_4 k] at hg
    unfold floorB at hg
    simp only [Bool.and_eq_true, inB_iff] at hg
    obtain ⟨h1, _, h3, _⟩ := hg
    obtain ⟨rfl, rfl⟩ := bare h1
    subst k
    exact recText_4 T Ti L (by omega) (by omega) (by omega) (by omega) w hTab pr pw cr cw Y
  · rw [goodRB_no k] at hg
    cases hg

/-- spec.l4Text, of a good record. -/
theorem l4Text_any {x : RecD} (hg : goodRB x = true) (hc : costRec x ≤ 1048576) (w : World) (pr pw : Option Addr) (cr cw : Nat) (rR : Rd Cod.str w (.slice pr x.Reads.length cr) x.Reads) (rW : Rd Cod.write w (.slice pw x.Writes.length cw) x.Writes) :
    Calls Tryd.prog 35 #[.agg #[.int .i64 x.Kind, .int .i64 x.Txn, .int .i64 x.Time, .int .i64 x.Lead, .slice pr x.Reads.length cr, .slice pw x.Writes.length cw, .bool x.Yes]] w fun e w' => e = .returned (.string (recT x.Kind x.Txn.toNat x.Time.toNat x.Lead.toNat x.Reads x.Writes)) ∧ Below w.heap.size w w' := by
  have hR : costStringS x.Reads ≤ 1048576 := by unfold costRec at hc; omega
  have hW : costWriteS x.Writes ≤ 1048576 := by unfold costRec at hc; omega
  obtain ⟨_, ⟨b2, b3⟩, ⟨b4, b5⟩, b6, b7⟩ := goodRB_bounds hg
  clear hc
  obtain ⟨K, T, Ti, L, R, Wr, Y⟩ := x
  simp only at *
  obtain ⟨T, rfl⟩ := Int.eq_ofNat_of_zero_le b2
  obtain ⟨Ti, rfl⟩ := Int.eq_ofNat_of_zero_le b4
  obtain ⟨L, rfl⟩ := Int.eq_ofNat_of_zero_le b6
  simp only [Int.toNat_natCast]
  have bare : bareB L R.length Wr.length = true → R = [] ∧ Wr = [] := fun h => by
    unfold bareB at h
    simp only [Bool.and_eq_true, decide_eq_true_eq] at h
    exact ⟨List.eq_nil_of_length_eq_zero h.2.1, List.eq_nil_of_length_eq_zero h.2.2⟩
  rcases rec_kinds K with k | k | k | k
  · rw [goodRB_1 k] at hg
    unfold prepB at hg
    simp only [Bool.and_eq_true, inB_iff] at hg
    subst k
    exact l4Text_1 T Ti L R Wr (by omega) (by omega) (by omega) (by omega) w pr pw cr cw Y hR hW rR rW
  · rw [goodRB_2 k] at hg
    unfold doneB at hg
    simp only [Bool.and_eq_true, inB_iff] at hg
    obtain ⟨h1, _, h3⟩ := hg
    obtain ⟨rfl, rfl⟩ := bare h1
    cases Y
    · have h4 : (Ti : Int) = 0 := by simpa using h3
      rcases k with rfl | rfl
      · exact l4Text_2n T Ti L (by omega) (by omega) (by omega) (by omega) w pr pw cr cw false
      · exact l4Text_3n T Ti L (by omega) (by omega) (by omega) (by omega) w pr pw cr cw false
    · have h4 := inB_iff.1 (show inB (Ti : Int) 1 100000 = true from h3)
      rcases k with rfl | rfl
      · exact l4Text_2y T Ti L (by omega) (by omega) (by omega) (by omega) w pr pw cr cw true
      · exact l4Text_3y T Ti L (by omega) (by omega) (by omega) (by omega) w pr pw cr cw true
  · rw [goodRB_4 k] at hg
    unfold floorB at hg
    simp only [Bool.and_eq_true, inB_iff] at hg
    obtain ⟨h1, _, h3, _⟩ := hg
    obtain ⟨rfl, rfl⟩ := bare h1
    subst k
    exact l4Text_4 T Ti L (by omega) (by omega) (by omega) (by omega) w pr pw cr cw Y
  · rw [goodRB_no k] at hg
    cases hg

/-- What RecText returns. -/
noncomputable def recTR (x : RecD) : ByteArray := bif goodRB x then recT x.Kind x.Txn.toNat x.Time.toNat x.Lead.toNat x.Reads x.Writes else ⟨#[]⟩

set_option maxRecDepth 100000 in
set_option maxHeartbeats 1600000 in
/-- impl.RecText -/
theorem expRecText_any (x : RecD) (hc : costRec x ≤ 1048576) (w : World) (hTab : TabW w) (a b : Value) (ra : Rd Cod.str w a x.Reads) (rb : Rd Cod.write w b x.Writes) :
    Calls Tryd.prog 17 #[.agg #[.int .i64 x.Kind, .int .i64 x.Txn, .int .i64 x.Time, .int .i64 x.Lead, a, b, .bool x.Yes]] w fun e w' => e = .returned (.tuple #[.string (recTR x), .bool (goodRB x)]) ∧ Below w.heap.size w w' := by
  have hRl : x.Reads.length ≤ 1048576 := by unfold costRec costStringS at hc; omega
  have hWl : x.Writes.length ≤ 1048576 := by unfold costRec costWriteS at hc; omega
  obtain ⟨pr, cr, rfl, _⟩ := ra.form
  obtain ⟨pw, cw, rfl, _⟩ := rb.form
  have Hg := Lib.hid (fun (W : World) (k : Below w.heap.size w W) => goodRec_any x hRl hWl W _ _ (ra.below k) (rb.below k))
  cases hq : goodRB x
  · rw [hq] at Hg
    have hr : recTR x = ⟨#[]⟩ := by unfold recTR; rw [hq]; rfl
    rw [hr]
    clear hq hr ra rb hc hRl hWl hTab
    go_enter Tryd.func17, Tryd.ntmps17
    go_wp2_with fail
    refine (Hg.out _ (by (repeat (first | (with_reducible exact Below.refl _ _) | (with_reducible refine below_setCell ?_ (by first | (simp; done) | (simp; omega) | omega)) | (with_reducible refine below_alloc _ ?_) | (with_reducible refine below_drewN ?_ _) | (with_reducible assumption) | (with_reducible refine below_after (by assumption) ?_))))).mono ?_
    rintro e w1 ⟨rfl, k1⟩
    go_wp2
    go_ret2
    exact ⟨rfl, by (repeat (first | (with_reducible exact Below.refl _ _) | (with_reducible refine below_setCell ?_ (by first | (simp; done) | (simp; omega) | omega)) | (with_reducible refine below_alloc _ ?_) | (with_reducible refine below_drewN ?_ _) | (with_reducible assumption) | (with_reducible refine below_after (by assumption) ?_)))⟩
  · rw [hq] at Hg
    have hr : recTR x = recT x.Kind x.Txn.toNat x.Time.toNat x.Lead.toNat x.Reads x.Writes := by unfold recTR; rw [hq]; rfl
    rw [hr]
    have Hr := Lib.hid (fun (W : World) (k : Below w.heap.size w W) => recText_any hq hc W (hTab.on k) pr pw cr cw (ra.below k) (rb.below k))
    clear hq hr ra rb hc hRl hWl hTab
    obtain ⟨K, T, Ti, L, R, Wr, Y⟩ := x
    simp only at *
    generalize recT K T.toNat Ti.toNat L.toNat R Wr = out at *
    go_enter Tryd.func17, Tryd.ntmps17
    go_wp2_with fail
    refine (Hg.out _ (by (repeat (first | (with_reducible exact Below.refl _ _) | (with_reducible refine below_setCell ?_ (by first | (simp; done) | (simp; omega) | omega)) | (with_reducible refine below_alloc _ ?_) | (with_reducible refine below_drewN ?_ _) | (with_reducible assumption) | (with_reducible refine below_after (by assumption) ?_))))).mono ?_
    rintro e w1 ⟨rfl, k1⟩
    have hx := bcell k1
    have q0 : w.heap.size < w1.heap.size := by have := k1.size; simp at this; omega
    have m1 : Below w.heap.size w w1 := below_after k1 (by (repeat (first | (with_reducible exact Below.refl _ _) | (with_reducible refine below_setCell ?_ (by first | (simp; done) | (simp; omega) | omega)) | (with_reducible refine below_alloc _ ?_) | (with_reducible refine below_drewN ?_ _) | (with_reducible assumption) | (with_reducible refine below_after (by assumption) ?_))))
    go_wp2_with fail
    refine (Hr.out _ m1).mono ?_
    rintro e w2 ⟨rfl, k2⟩
    go_wp2
    go_ret2
    exact ⟨rfl, below_after k2 m1⟩

set_option maxRecDepth 100000 in
set_option maxHeartbeats 1600000 in
/-- spec.RecText -/
theorem expRecTextS_any (x : RecD) (hc : costRec x ≤ 1048576) (w : World) (a b : Value) (ra : Rd Cod.str w a x.Reads) (rb : Rd Cod.write w b x.Writes) :
    Calls Tryd.prog 15 #[.agg #[.int .i64 x.Kind, .int .i64 x.Txn, .int .i64 x.Time, .int .i64 x.Lead, a, b, .bool x.Yes]] w fun e w' => e = .returned (.tuple #[.string (recTR x), .bool (goodRB x)]) ∧ Below w.heap.size w w' := by
  have hRl : x.Reads.length ≤ 1048576 := by unfold costRec costStringS at hc; omega
  have hWl : x.Writes.length ≤ 1048576 := by unfold costRec costWriteS at hc; omega
  obtain ⟨pr, cr, rfl, _⟩ := ra.form
  obtain ⟨pw, cw, rfl, _⟩ := rb.form
  have Hg := Lib.hid (fun (W : World) (k : Below w.heap.size w W) => l4Good_any x hRl hWl W _ _ (ra.below k) (rb.below k))
  cases hq : goodRB x
  · rw [hq] at Hg
    have hr : recTR x = ⟨#[]⟩ := by unfold recTR; rw [hq]; rfl
    rw [hr]
    clear hq hr ra rb hc hRl hWl
    go_enter Tryd.func15, Tryd.ntmps15
    go_wp2_with fail
    refine (Hg.out _ (by (repeat (first | (with_reducible exact Below.refl _ _) | (with_reducible refine below_setCell ?_ (by first | (simp; done) | (simp; omega) | omega)) | (with_reducible refine below_alloc _ ?_) | (with_reducible refine below_drewN ?_ _) | (with_reducible assumption) | (with_reducible refine below_after (by assumption) ?_))))).mono ?_
    rintro e w1 ⟨rfl, k1⟩
    go_wp2
    go_ret2
    exact ⟨rfl, by (repeat (first | (with_reducible exact Below.refl _ _) | (with_reducible refine below_setCell ?_ (by first | (simp; done) | (simp; omega) | omega)) | (with_reducible refine below_alloc _ ?_) | (with_reducible refine below_drewN ?_ _) | (with_reducible assumption) | (with_reducible refine below_after (by assumption) ?_)))⟩
  · rw [hq] at Hg
    have hr : recTR x = recT x.Kind x.Txn.toNat x.Time.toNat x.Lead.toNat x.Reads x.Writes := by unfold recTR; rw [hq]; rfl
    rw [hr]
    have Hr := Lib.hid (fun (W : World) (k : Below w.heap.size w W) => l4Text_any hq hc W pr pw cr cw (ra.below k) (rb.below k))
    clear hq hr ra rb hc hRl hWl
    obtain ⟨K, T, Ti, L, R, Wr, Y⟩ := x
    simp only at *
    generalize recT K T.toNat Ti.toNat L.toNat R Wr = out at *
    go_enter Tryd.func15, Tryd.ntmps15
    go_wp2_with fail
    refine (Hg.out _ (by (repeat (first | (with_reducible exact Below.refl _ _) | (with_reducible refine below_setCell ?_ (by first | (simp; done) | (simp; omega) | omega)) | (with_reducible refine below_alloc _ ?_) | (with_reducible refine below_drewN ?_ _) | (with_reducible assumption) | (with_reducible refine below_after (by assumption) ?_))))).mono ?_
    rintro e w1 ⟨rfl, k1⟩
    have hx := bcell k1
    have q0 : w.heap.size < w1.heap.size := by have := k1.size; simp at this; omega
    have m1 : Below w.heap.size w w1 := below_after k1 (by (repeat (first | (with_reducible exact Below.refl _ _) | (with_reducible refine below_setCell ?_ (by first | (simp; done) | (simp; omega) | omega)) | (with_reducible refine below_alloc _ ?_) | (with_reducible refine below_drewN ?_ _) | (with_reducible assumption) | (with_reducible refine below_after (by assumption) ?_))))
    go_wp2_with fail
    refine (Hr.out _ m1).mono ?_
    rintro e w2 ⟨rfl, k2⟩
    go_wp2
    go_ret2
    exact ⟨rfl, below_after k2 m1⟩

end Go.Proofs.YtpiheobpobclgaaDoor
