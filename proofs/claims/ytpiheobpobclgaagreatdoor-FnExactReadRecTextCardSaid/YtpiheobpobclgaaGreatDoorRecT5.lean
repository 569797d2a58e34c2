/- RecText, both. Printed by mkrect.py. -/
import Derived.Test.YtpiheobpobclgaaGreatDoorRecT3
import Derived.Test.YtpiheobpobclgaaGreatDoorRecT4
namespace Go.Proofs.YtpiheobpobclgaaGreatDoor
open Go.RowKit

theorem goodRB_bounds {x : RecD} (h : goodRB x = true) : (0 ≤ x.Kind ∧ x.Kind ≤ 4) ∧ (0 ≤ x.Txn ∧ x.Txn ≤ 60) ∧ (0 ≤ x.Time ∧ x.Time ≤ 100000) ∧ 0 ≤ x.Lead ∧ x.Lead ≤ 3 := by
  rcases rec_kinds x.Kind with k | k | k | k
  · rw [goodRB_1 k] at h
    unfold prepB at h
    simp only [Bool.and_eq_true, inB_iff] at h
    obtain ⟨h1, h2, h3, _⟩ := h
    omega
  · rw [goodRB_2 k] at h
    unfold doneB bareB at h
    simp only [Bool.and_eq_true, inB_iff, decide_eq_true_eq] at h
    obtain ⟨⟨h1, _⟩, h2, h3⟩ := h
    cases hy : x.Yes
    · rw [hy] at h3
      have h4 : x.Time = 0 := by simpa using h3
      omega
    · rw [hy] at h3
      have h4 := inB_iff.1 (show inB x.Time 1 100000 = true from h3)
      omega
  · rw [goodRB_4 k] at h
    unfold floorB bareB at h
    simp only [Bool.and_eq_true, inB_iff, decide_eq_true_eq] at h
    obtain ⟨⟨h1, _⟩, h2, h3, _⟩ := h
    omega
  · rw [goodRB_no k] at h
    cases h

/-- impl.recText, of a good record. -/
theorem recText_any {x : RecD} (hg : goodRB x = true) (hc : costRec x ≤ 1048576) (w : World) (hTab : TabW w) (pr pw : Option Addr) (cr cw : Nat) (rR : Rd Cod.str w (.slice pr x.Reads.length cr) x.Reads) (rW : Rd Cod.write w (.slice pw x.Writes.length cw) x.Writes) :
    Calls Tryz.prog 20 #[.agg #[.int .i64 x.Kind, .int .i64 x.Txn, .int .i64 x.Time, .int .i64 x.Lead, .slice pr x.Reads.length cr, .slice pw x.Writes.length cw, .bool x.Yes]] w fun e w' => e = .returned (.string (recT x.Kind x.Txn.toNat x.Time.toNat x.Lead.toNat x.Reads x.Writes)) ∧ Below w.heap.size w w' := by
  have hR : costStringS x.Reads ≤ 1048576 := by unfold costRec at hc; omega
  have hW : costWriteS x.Writes ≤ 1048576 := by unfold costRec at hc; omega
  obtain ⟨_, ⟨b2, b3⟩, ⟨b4, b5⟩, b6, b7⟩ := goodRB_bounds hg
  clear hc
  obtain ⟨K, T, Ti, L, R, Wr, Y⟩ := x
  simp only at *
  obtain ⟨T, rfl⟩ := Int.eq_ofNat_of_zero_le b2
  obtain ⟨Ti, rfl⟩ := Int.eq_ofNat_of_zero_le b4
  obtain ⟨L, rfl⟩ := Int.eq_ofNat_of_zero_le b6
  simp only [Int.toNat_natCast]
  have bare : bareB L R.length Wr.length = true → R = [] ∧ Wr = [] := fun h => by
    unfold bareB at h
    simp only [Bool.and_eq_true, decide_eq_true_eq] at h
    exact ⟨List.eq_nil_of_length_eq_zero h.2.1, List.eq_nil_of_length_eq_zero h.2.2⟩
  rcases rec_kinds K with k | k | k | k
  · rw [goodRB_1 k] at hg
    unfold prepB at hg
    simp only [Bool.and_eq_true, inB_iff] at hg
    subst k
    exact recText_1 T Ti L R Wr (by omega) (by omega) (by omega) (by omega) w hTab pr pw cr cw Y hR hW rR rW
  · rw [goodRB_2 k] at hg
    unfold doneB at hg
    simp only [Bool.and_eq_true, inB_iff] at hg
    obtain ⟨h1, _, h3⟩ := hg
    obtain ⟨rfl, rfl⟩ := bare h1
    cases Y
    · have h4 : (Ti : Int) = 0 := by simpa using h3
      rcases k with rfl | rfl
      · exact recText_2n T Ti L (by omega) (by omega) (by omega) (by omega) w hTab pr pw cr cw false
      · exact recText_3n T Ti L (by omega) (by omega) (by omega) (by omega) w hTab pr pw cr cw false
    · have h4 := inB_iff.1 (show inB (Ti : Int) 1 100000 = true from h3)
      rcases k with rfl | rfl
      · exact recText_2y T Ti L (by omega) (by omega) (by omega) (by omega) w hTab pr pw cr cw true
      · exact recText_3y T Ti L (by omega) (by omega) (by omega) (by omega) w hTab pr pw cr cw true
  · rw [goodRB_4 k] at hg
    unfold floorB at hg
    simp only [Bool.and_eq_true, inB_iff] at hg
    obtain ⟨h1, _, h3, _⟩ := hg
    obtain ⟨rfl, rfl⟩ := bare h1
    subst k
    exact recText_4 T Ti L (by omega) (by omega) (by omega) (by omega) w hTab pr pw cr cw Y
  · rw [goodRB_no k] at hg
    cases hg

/-- spec.l4Text, of a good record. -/
theorem l4Text_any {x : RecD} (hg : goodRB x = true) (hc : costRec x ≤ 1048576) (w : World) (pr pw : Option Addr) (cr cw : Nat) (rR : Rd Cod.str w (.slice pr x.Reads.length cr) x.Reads) (rW : Rd Cod.write w (.slice pw x.Writes.length cw) x.Writes) :
    Calls Tryz.prog 14 #[.agg #[.int .i64 x.Kind, .int .i64 x.Txn, .int .i64 x.Time, .int .i64 x.Lead, .slice pr x.Reads.length cr, .slice pw x.Writes.length cw, .bool x.Yes]] w fun e w' => e = .returned (.string (recT x.Kind x.Txn.toNat x.Time.toNat x.Lead.toNat x.Reads x.Writes)) ∧ Below w.heap.size w w' := by
  have hR : costStringS x.Reads ≤ 1048576 := by unfold costRec at hc; omega
  have hW : costWriteS x.Writes ≤ 1048576 := by unfold costRec at hc; omega
  obtain ⟨_, ⟨b2, b3⟩, ⟨b4, b5⟩, b6, b7⟩ := goodRB_bounds hg
  clear hc
  obtain ⟨K, T, Ti, L, R, Wr, Y⟩ := x
  simp only at *
  obtain ⟨T, rfl⟩ := Int.eq_ofNat_of_zero_le b2
  obtain ⟨Ti, rfl⟩ := Int.eq_ofNat_of_zero_le b4
  obtain ⟨L, rfl⟩ := Int.eq_ofNat_of_zero_le b6
  simp only [Int.toNat_natCast]
  have bare : bareB L R.length Wr.length = true → R = [] ∧ Wr = [] := fun h => by
    unfold bareB at h
    simp only [Bool.and_eq_true, decide_eq_true_eq] at h
    exact ⟨List.eq_nil_of_length_eq_zero h.2.1, List.eq_nil_of_length_eq_zero h.2.2⟩
  rcases rec_kinds K with k | k | k | k
  · rw [goodRB_1 k] at hg
    unfold prepB at hg
    simp only [Bool.and_eq_true, inB_iff] at hg
    subst k
    exact l4Text_1 T Ti L R Wr (by omega) (by omega) (by omega) (by omega) w pr pw cr cw Y hR hW rR rW
  · rw [goodRB_2 k] at hg
    unfold doneB at hg
    simp only [Bool.and_eq_true, inB_iff] at hg
    obtain ⟨h1, _, h3⟩ := hg
    obtain ⟨rfl, rfl⟩ := bare h1
    cases Y
    · have h4 : (Ti : Int) = 0 := by simpa using h3
      rcases k with rfl | rfl
      · exact l4Text_2n T Ti L (by omega) (by omega) (by omega) (by omega) w pr pw cr cw false
      · exact l4Text_3n T Ti L (by omega) (by omega) (by omega) (by omega) w pr pw cr cw false
    · have h4 := inB_iff.1 (show inB (Ti : Int) 1 100000 = true from h3)
      rcases k with rfl | rfl
      · exact l4Text_2y T Ti L (by omega) (by omega) (by omega) (by omega) w pr pw cr cw true
      · exact l4Text_3y T Ti L (by omega) (by omega) (by omega) (by omega) w pr pw cr cw true
  · rw [goodRB_4 k] at hg
    unfold floorB at hg
    simp only [Bool.and_eq_true, inB_iff] at hg
    obtain ⟨h1, _, h3, _⟩ := hg
    obtain ⟨rfl, rfl⟩ := bare h1
    subst k
    exact l4Text_4 T Ti L (by omega) (by omega) (by omega) (by omega) w pr pw cr cw Y
  · rw [goodRB_no k] at hg
    cases hg

/-- What RecText returns. -/
noncomputable def recTR (x : RecD) : ByteArray := bif goodRB x then recT x.Kind x.Txn.toNat x.Time.toNat x.Lead.toNat x.Reads x.Writes else ⟨#[]⟩

end Go.Proofs.YtpiheobpobclgaaGreatDoor
