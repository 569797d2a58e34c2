/- Versions trimmed: the plain law. No program. -/
import Derived.Test.YtogdbjalgledpaaGCells
namespace Go.Proofs.Ytogdbjalgledpaa
open Go.RowKit

def headLe (fl : Int) : List VerD → Bool
  | [] => false
  | v :: _ => decide (v.Time ≤ fl)
/-- What is kept of versions. -/
def keepV (fl : Int) : List VerD → List VerD
  | [] => []
  | v :: vs => if (decide (fl < v.Time) || (!headLe fl vs && !v.Gone)) = true then v :: keepV fl vs else keepV fl vs
/-- The last index with a time of at most fl. -/
def lastF (fl : Int) : List VerD → Nat → Nat → Nat
  | [], _, c => c
  | v :: vs, j, c => lastF fl vs (j + 1) (if v.Time ≤ fl then j else c)

/-- Times that rise: the first m are at most fl, the others later. -/
def CutAt (fl : Int) : List VerD → Nat → Prop
  | [], m => m = 0
  | v :: vs, 0 => fl < v.Time ∧ CutAt fl vs 0
  | v :: vs, m + 1 => v.Time ≤ fl ∧ CutAt fl vs m

theorem CutAt.le {fl : Int} : ∀ {vs : List VerD} {m : Nat}, CutAt fl vs m → m ≤ vs.length
  | [], m, h => by rw [show m = 0 from h]; exact Nat.le_refl _
  | _ :: _, 0, _ => Nat.zero_le _
  | _ :: vs, m + 1, h => by have := CutAt.le h.2; simp; omega
theorem CutAt.head {fl : Int} : ∀ {vs : List VerD} {m : Nat}, CutAt fl vs m → headLe fl vs = decide (0 < m)
  | [], m, h => by rw [show m = 0 from h]; rfl
  | v :: _, 0, h => by simp only [headLe]; rw [decide_eq_false (by have := h.1; omega)]; rfl
  | v :: _, m + 1, h => by simp only [headLe]; rw [decide_eq_true h.1]; simp
theorem keepV_zero {fl : Int} : ∀ {vs : List VerD}, CutAt fl vs 0 → keepV fl vs = vs
  | [], _ => rfl
  | v :: vs, h => by
    unfold keepV
    rw [if_pos (by rw [decide_eq_true h.1]; rfl), keepV_zero h.2]
theorem keepV_succ {fl : Int} : ∀ {vs : List VerD} {m : Nat} (_ : CutAt fl vs (m + 1)) (hm : m < vs.length), keepV fl vs = if vs[m].Gone then vs.drop (m + 1) else vs.drop m
  | [], _, h, _ => by cases h
  | v :: vs, 0, h, _ => by
    have hd := h.2.head
    unfold keepV
    rw [hd, decide_eq_false (by have := h.1; omega), keepV_zero h.2]
    cases hg : v.Gone <;> simp [hg]
  | v :: vs, m + 1, h, hm => by
    have hd := h.2.head
    unfold keepV
    rw [hd, decide_eq_false (by have := h.1; omega), keepV_succ h.2 (by simpa using hm)]
    simp
theorem lastF_of {fl : Int} : ∀ {vs : List VerD} {m : Nat} (j c : Nat), CutAt fl vs m → lastF fl vs j c = if m = 0 then c else j + m - 1
  | [], m, j, c, h => by rw [show m = 0 from h]; rfl
  | v :: vs, 0, j, c, h => by
    unfold lastF
    rw [if_neg (by have := h.1; omega), lastF_of (j + 1) c h.2]
    rfl
  | v :: vs, m + 1, j, c, h => by
    unfold lastF
    rw [if_pos h.1, lastF_of (j + 1) j h.2]
    by_cases hm : m = 0
    · subst hm; rw [if_pos rfl, if_neg (by omega)]; omega
    · rw [if_neg hm, if_neg (by omega)]; omega

/-- Times rise. -/
def RiseV (vs : List VerD) : Prop := ∀ j (h : j + 1 < vs.length), (vs[j]'(by omega)).Time < vs[j + 1].Time
theorem RiseV.tail {v : VerD} {vs : List VerD} (h : RiseV (v :: vs)) : RiseV vs := fun j hj => h (j + 1) (by simpa using hj)
theorem RiseV.zero {fl : Int} : ∀ {vs : List VerD}, RiseV vs → headLe fl vs = false → CutAt fl vs 0
  | [], _, _ => rfl
  | v :: vs, h, hd => by
    have h1 : fl < v.Time := by simpa [headLe] using hd
    refine ⟨h1, RiseV.zero h.tail ?_⟩
    cases vs with
    | nil => rfl
    | cons v' vs =>
      have := h 0 (by simp)
      simp only [headLe, decide_eq_false_iff_not]
      simp at this
      omega
theorem RiseV.cut {fl : Int} : ∀ {vs : List VerD}, RiseV vs → ∃ m, CutAt fl vs m
  | [], _ => ⟨0, rfl⟩
  | v :: vs, h => by
    by_cases hv : v.Time ≤ fl
    · obtain ⟨m, hm⟩ := RiseV.cut (fl := fl) h.tail
      exact ⟨m + 1, hv, hm⟩
    · exact ⟨0, h.zero (by simp only [headLe, decide_eq_false_iff_not]; exact hv)⟩

theorem riseV_of {vs : List VerD} (h : GoodV vs) : RiseV vs := fun j hj => (h.2 (j + 1) hj hj).2.2 j rfl

/-- How the program finds where the kept ones begin. -/
theorem keepV_first {fl : Int} {vs : List VerD} (h : RiseV vs) (hp : 0 < vs.length) : ∃ f, ∃ hf : f < vs.length, lastF fl vs 0 0 = f ∧ keepV fl vs = if vs[f].Time ≤ fl ∧ vs[f].Gone = true then vs.drop (f + 1) else vs.drop f := by
  obtain ⟨m, hm⟩ := h.cut (fl := fl)
  have hl := hm.le
  rw [lastF_of 0 0 hm]
  cases m with
  | zero =>
    refine ⟨0, hp, rfl, ?_⟩
    rw [keepV_zero hm]
    cases vs with
    | nil => simp at hp
    | cons v vs =>
      have := hm.1
      rw [if_neg (by simp; omega)]
      rfl
  | succ m =>
    refine ⟨m, by omega, by simp, ?_⟩
    rw [keepV_succ hm (by omega)]
    have ht : ∀ {vs : List VerD} {m : Nat} (h : CutAt fl vs (m + 1)) (hm : m < vs.length), vs[m].Time ≤ fl := by
      intro vs m
      induction m generalizing vs with
      | zero => intro h hm; cases vs with
        | nil => cases h
        | cons v vs => exact h.1
      | succ m ih => intro h hm; cases vs with
        | nil => cases h
        | cons v vs => exact ih h.2 (by simpa using hm)
    have ht1 := ht hm (by omega)
    cases hg : vs[m].Gone <;> simp [ht1, hg]

theorem keepV_length (fl : Int) (vs : List VerD) : (keepV fl vs).length ≤ vs.length := by
  induction vs with
  | nil => exact Nat.le_refl _
  | cons v vs ih =>
    unfold keepV
    split
    · simp; omega
    · simp; omega
theorem costVerS_keep (fl : Int) (vs : List VerD) : costVerS (keepV fl vs) ≤ costVerS vs := by
  unfold costVerS
  have h1 := keepV_length fl vs
  have h2 : sumC costVer (keepV fl vs) ≤ sumC costVer vs := by
    induction vs with
    | nil => exact Nat.le_refl _
    | cons v vs ih =>
      have := ih (keepV_length fl vs)
      unfold keepV
      split
      · show costVer v + sumC costVer (keepV fl vs) ≤ costVer v + sumC costVer vs; omega
      · show _ ≤ costVer v + sumC costVer vs; omega
  omega

/-- A cell trimmed: none if no version is left. -/
def trimC (fl : Int) (c : CellD) : List CellD := if (keepV fl c.Vers).length = 0 then [] else [⟨c.Key, keepV fl c.Vers⟩]
def trimL (fl : Int) : List CellD → List CellD
  | [] => []
  | c :: l => trimC fl c ++ trimL fl l
theorem trimL_take (fl : Int) (l : List CellD) (k : Nat) (h : k < l.length) : trimL fl (l.take (k + 1)) = trimL fl (l.take k) ++ trimC fl l[k] := by
  have happ : ∀ a b : List CellD, trimL fl (a ++ b) = trimL fl a ++ trimL fl b := by
    intro a b
    induction a with
    | nil => rfl
    | cons x a ih => show trimC fl x ++ trimL fl (a ++ b) = _; rw [ih]; simp [trimL]
  rw [List.take_succ_eq_append_getElem h, happ]
  simp [trimL]
theorem trimL_cost (fl : Int) (l : List CellD) : costCellS (trimL fl l) ≤ costCellS l ∧ (trimL fl l).length ≤ l.length := by
  have h1 : (trimL fl l).length ≤ l.length ∧ sumC costCell (trimL fl l) ≤ sumC costCell l := by
    induction l with
    | nil => exact ⟨Nat.le_refl _, Nat.le_refl _⟩
    | cons c l ih =>
      unfold trimL trimC
      split
      · refine ⟨by simp; omega, ?_⟩
        show _ ≤ costCell c + sumC costCell l
        rw [List.nil_append]; omega
      · refine ⟨by simp; omega, ?_⟩
        show costCell ⟨c.Key, keepV fl c.Vers⟩ + sumC costCell (trimL fl l) ≤ costCell c + sumC costCell l
        have h2 : costCell ⟨c.Key, keepV fl c.Vers⟩ ≤ costCell c := by
          have := costVerS_keep fl c.Vers
          unfold costCell
          simp only
          omega
        omega
  unfold costCellS
  omega

end Go.Proofs.Ytogdbjalgledpaa
