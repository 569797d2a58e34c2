/- Writes put into rows. Plain law; no program. -/
import Derived.Test.YtkcidneefdaaiaaGoodr
import Derived.Test.YtkcidneefdaaiaaPlainSet
namespace Go.Proofs.Ytkcidneefdaaiaa
open Go.RowKit

/-- Rising keys. -/
def RiseW (l : List WriteD) : Prop := l.Pairwise fun a b => ltB a.Key b.Key = true

/-- A write put into a rising list. -/
def putW (x : WriteD) : List WriteD → List WriteD
  | [] => [x]
  | y :: r => if ltB x.Key y.Key = true then x :: y :: r else if ltB y.Key x.Key = true then y :: putW x r else x :: r

theorem putW_mid {x : WriteD} : ∀ (a b : List WriteD), (∀ y ∈ a, ltB y.Key x.Key = true) → (∀ y ∈ b, ltB x.Key y.Key = true) → putW x (a ++ b) = a ++ x :: b
  | [], [], _, _ => rfl
  | [], y :: b, _, h => if_pos (h y (List.mem_cons_self ..))
  | y :: a, b, h, k => by
    have h1 := h y (List.mem_cons_self ..)
    have h2 : ¬ ltB x.Key y.Key = true := fun e => by have := ltB_trans h1 e; rw [ltB_irrefl] at this; cases this
    show (if _ then _ else if _ then y :: putW x (a ++ b) else _) = _
    rw [if_neg h2, if_pos h1, putW_mid a b (fun z hz => h z (List.mem_cons_of_mem _ hz)) k]
    rfl
theorem putW_at {x y : WriteD} (he : y.Key = x.Key) : ∀ (a b : List WriteD), (∀ z ∈ a, ltB z.Key x.Key = true) → putW x (a ++ y :: b) = a ++ x :: b
  | [], b, _ => by
    show (if _ then _ else _) = _
    rw [he, ltB_irrefl, if_neg (by simp), if_neg (by simp)]
    rfl
  | z :: a, b, h => by
    have h1 := h z (List.mem_cons_self ..)
    have h2 : ¬ ltB x.Key z.Key = true := fun e => by have := ltB_trans h1 e; rw [ltB_irrefl] at this; cases this
    show (if _ then _ else if _ then z :: putW x (a ++ y :: b) else _) = _
    rw [if_neg h2, if_pos h1, putW_at he a b (fun w hw => h w (List.mem_cons_of_mem _ hw))]
    rfl
theorem putW_mem {x : WriteD} : ∀ (l : List WriteD) (y : WriteD), y ∈ putW x l → y = x ∨ y ∈ l
  | [], y, h => by
    have h : y ∈ [x] := h
    simpa using h
  | z :: r, y, h => by
    unfold putW at h
    split at h
    · rcases List.mem_cons.1 h with h | h
      · exact Or.inl h
      · exact Or.inr h
    · split at h
      · rcases List.mem_cons.1 h with h | h
        · exact Or.inr (h ▸ List.mem_cons_self ..)
        · rcases putW_mem r y h with h | h
          · exact Or.inl h
          · exact Or.inr (List.mem_cons_of_mem _ h)
      · rcases List.mem_cons.1 h with h | h
        · exact Or.inl h
        · exact Or.inr (List.mem_cons_of_mem _ h)
theorem putW_rise {x : WriteD} : ∀ {l : List WriteD}, RiseW l → RiseW (putW x l)
  | [], _ => List.pairwise_singleton _ _
  | y :: r, h => by
    have h0 := h
    unfold RiseW at h
    rw [List.pairwise_cons] at h
    unfold putW
    split
    · rename_i hlt
      exact List.pairwise_cons.2 ⟨fun z hz => by
        rcases List.mem_cons.1 hz with rfl | hz
        · exact hlt
        · exact ltB_trans hlt (h.1 z hz), h0⟩
    · rename_i hnl
      split
      · rename_i hgt
        exact List.pairwise_cons.2 ⟨fun z hz => by
          rcases putW_mem r z hz with rfl | hz
          · exact hgt
          · exact h.1 z hz, putW_rise h.2⟩
      · rename_i hng
        have he : x.Key = y.Key := by
          refine Classical.byContradiction fun hne => hnl ?_
          exact lt_total (Bool.eq_false_iff.2 hng) hne
        exact List.pairwise_cons.2 ⟨fun z hz => by rw [he]; exact h.1 z hz, h.2⟩
theorem putW_length (x : WriteD) : ∀ l : List WriteD, (putW x l).length ≤ l.length + 1
  | [] => Nat.le_refl _
  | y :: r => by
    unfold putW
    have := putW_length x r
    split
    · simp
    · split <;> simp <;> omega

/-- All writes put. -/
def putAll : List WriteD → List WriteD → List WriteD
  | l, [] => l
  | l, x :: r => putAll (putW x l) r
theorem putAll_snoc : ∀ (a : List WriteD) (l : List WriteD) (x : WriteD), putAll l (a ++ [x]) = putW x (putAll l a)
  | [], _, _ => rfl
  | y :: a, l, x => putAll_snoc a (putW y l) x
theorem putAll_rise : ∀ (w : List WriteD) {l : List WriteD}, RiseW l → RiseW (putAll l w)
  | [], _, h => h
  | x :: r, _, h => putAll_rise r (putW_rise h)
theorem putAll_mem : ∀ (w l : List WriteD) (y : WriteD), y ∈ putAll l w → y ∈ w ∨ y ∈ l
  | [], _, _, h => Or.inr h
  | _ :: r, l, y, h => by
    rcases putAll_mem r _ y h with h | h
    · exact Or.inl (List.mem_cons_of_mem _ h)
    · rcases putW_mem l y h with rfl | h
      · exact Or.inl (List.mem_cons_self ..)
      · exact Or.inr h
theorem putAll_length : ∀ (w l : List WriteD), (putAll l w).length ≤ l.length + w.length
  | [], _ => Nat.le_refl _
  | x :: r, l => by
    show (putAll (putW x l) r).length ≤ _
    have h1 := putAll_length r (putW x l)
    have h2 := putW_length x l
    simp only [List.length_cons]
    omega

def notGone (x : WriteD) : Bool := !x.Gone
/-- The rows behind the writes. -/
def rowsL (l w : List WriteD) : List WriteD := (putAll l w).filter notGone

theorem goodWB_rise {l : List WriteD} (h : goodWB l = true) : RiseW l := by
  have h2 := (goodWB_at h).2
  unfold RiseW
  rw [List.pairwise_iff_getElem]
  intro i j hi hj hij
  induction j with
  | zero => omega
  | succ b ih =>
    have h3 := (h2 (b + 1) hj hj).2 b rfl
    by_cases e : i = b
    · subst e; exact h3
    · exact ltB_trans (ih (by omega) (by omega)) h3
theorem goodWB_mem {l : List WriteD} (h : goodWB l = true) {x : WriteD} (hx : x ∈ l) : (keyB x.Key && storedB x.Val x.Gone) = true := by
  obtain ⟨j, hj, rfl⟩ := List.getElem_of_mem hx
  exact ((goodWB_at h).2 j hj hj).1
theorem goodWB_of {l : List WriteD} (h0 : l.length ≤ 24) (h : RiseW l) (hm : ∀ x ∈ l, (keyB x.Key && storedB x.Val x.Gone) = true) : goodWB l = true :=
  goodWB_true h0 fun k hk hk2 => ⟨hm _ (List.getElem_mem hk2), fun m hm => (List.pairwise_iff_getElem.1 h) m k (by omega) hk2 (by omega)⟩

/-- Rows: good writes of which none is gone. -/
noncomputable def rowsB (l : List WriteD) : Bool := goodWB l && l.all notGone
theorem rows_good {l w : List WriteD} (h1 : goodWB l = true) (h2 : goodWB w = true) : rowsB (rowsL l w) = decide ((rowsL l w).length ≤ 24) := by
  have hall : (rowsL l w).all notGone = true := by
    rw [List.all_eq_true]
    intro x hx
    exact (List.mem_filter.1 hx).2
  unfold rowsB
  rw [hall, Bool.and_true]
  by_cases h : (rowsL l w).length ≤ 24
  · rw [decide_eq_true h]
    refine goodWB_of h ?_ fun x hx => ?_
    · exact List.Pairwise.sublist List.filter_sublist (putAll_rise w (goodWB_rise h1))
    · rcases putAll_mem w l x (List.mem_filter.1 hx).1 with h | h
      · exact goodWB_mem h2 h
      · exact goodWB_mem h1 h
  · rw [decide_eq_false h]
    exact goodWB_long h
theorem putW_cost (x : WriteD) : ∀ l : List WriteD, costWriteS (putW x l) ≤ costWriteS l + 1 + costWrite x
  | [] => by show costWriteS [x] ≤ _; simp [costWriteS, sumC]
  | y :: r => by
    have ih := putW_cost x r
    unfold putW
    split
    · simp [costWriteS, sumC] at *; omega
    · split
      · simp [costWriteS, sumC] at *; omega
      · simp [costWriteS, sumC] at *; omega
theorem putAll_cost : ∀ (w l : List WriteD), costWriteS (putAll l w) ≤ costWriteS l + costWriteS w
  | [], _ => Nat.le_add_right _ _
  | x :: r, l => by
    show costWriteS (putAll (putW x l) r) ≤ _
    have h1 := putAll_cost r (putW x l)
    have h2 := putW_cost x l
    have h3 : costWriteS (x :: r) = costWriteS r + 1 + costWrite x := by simp [costWriteS, sumC]; omega
    omega
theorem filter_cost (p : WriteD → Bool) : ∀ l : List WriteD, costWriteS (l.filter p) ≤ costWriteS l
  | [] => Nat.le_refl _
  | x :: r => by
    have ih := filter_cost p r
    have h3 : costWriteS (x :: r) = costWriteS r + 1 + costWrite x := by simp [costWriteS, sumC]; omega
    rw [List.filter_cons]
    split
    · have h4 : costWriteS (x :: r.filter p) = costWriteS (r.filter p) + 1 + costWrite x := by simp [costWriteS, sumC]; omega
      omega
    · omega
theorem rowsL_cost (l w : List WriteD) : costWriteS (rowsL l w) ≤ costWriteS l + costWriteS w := Nat.le_trans (filter_cost _ _) (putAll_cost w l)

end Go.Proofs.Ytkcidneefdaaiaa
