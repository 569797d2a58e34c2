/- Sets of texts as rising lists. Plain law; no program. -/
import Derived.Test.YtkcidneefdaaiaaKit
import Derived.Lib.SlicesCompact
namespace Go.Proofs.Ytkcidneefdaaiaa
open Go.RowKit

def Rise (l : List ByteArray) : Prop := l.Pairwise fun a b => ltB a b = true

theorem lt_ne {a b : ByteArray} (h : ltB a b = true) : a ≠ b := by
  rintro rfl
  rw [ltB_irrefl] at h
  cases h

theorem rise_unique : ∀ {a b : List ByteArray}, Rise a → Rise b → (∀ x, x ∈ a ↔ x ∈ b) → a = b
  | [], [], _, _, _ => rfl
  | [], y :: b, _, _, h => absurd ((h y).2 List.mem_cons_self) List.not_mem_nil
  | x :: a, [], _, _, h => absurd ((h x).1 List.mem_cons_self) List.not_mem_nil
  | x :: a, y :: b, ha, hb, h => by
    unfold Rise at ha hb
    rw [List.pairwise_cons] at ha hb
    have hxy : x = y := by
      rcases List.mem_cons.1 ((h x).1 List.mem_cons_self) with e | e
      · exact e
      · rcases List.mem_cons.1 ((h y).2 List.mem_cons_self) with e' | e'
        · exact e'.symm
        · have := ltB_trans (hb.1 x e) (ha.1 y e')
          rw [ltB_irrefl] at this
          cases this
    subst hxy
    rw [rise_unique ha.2 hb.2 fun z => ⟨fun hz => ?_, fun hz => ?_⟩]
    · rcases List.mem_cons.1 ((h z).1 (List.mem_cons_of_mem _ hz)) with e | e
      · exact absurd e.symm (lt_ne (ha.1 z hz))
      · exact e
    · rcases List.mem_cons.1 ((h z).2 (List.mem_cons_of_mem _ hz)) with e | e
      · exact absurd e.symm (lt_ne (hb.1 z hz))
      · exact e

theorem lt_total {a b : ByteArray} (h : ltB b a = false) (hne : a ≠ b) : ltB a b = true := by
  have := leB_eq a b
  rw [h] at this
  rcases Bool.or_eq_true_iff.1 (show _ = true from this) with h1 | h1
  · exact h1
  · exfalso
    rw [beq_iff_eq] at h1
    exact hne (str_eq_iff.1 h1)

/-- How a text is put into a rising list, once. -/
def PutS (s : ByteArray) (l r : List ByteArray) : Prop := ∃ k, k ≤ l.length ∧ (∀ j (h : j < l.length), k ≤ j → ltB s l[j] = true) ∧
  ((∃ h : k - 1 < l.length, 0 < k ∧ l[k - 1] = s ∧ r = l) ∨ ((∀ h : k - 1 < l.length, 0 < k → ltB s l[k - 1] = false ∧ l[k - 1] ≠ s) ∧ r = l.take k ++ s :: l.drop k))

theorem putS_rise {s : ByteArray} {l r : List ByteArray} (hl : Rise l) (h : PutS s l r) : Rise r ∧ ∀ x, x ∈ r ↔ x = s ∨ x ∈ l := by
  obtain ⟨k, hk, hhi, ⟨h1, h2, h3, rfl⟩ | ⟨h1, rfl⟩⟩ := h
  · refine ⟨hl, fun x => ⟨Or.inr, fun h => h.elim (fun e => ?_) id⟩⟩
    rw [e, ← h3]
    exact List.getElem_mem h1
  · refine ⟨?_, fun x => ?_⟩
    · unfold Rise at hl ⊢
      rw [List.pairwise_append, List.pairwise_cons]
      have hd : ∀ b ∈ l.drop k, ltB s b = true := fun b hb => by
        obtain ⟨j, hj, rfl⟩ := List.getElem_of_mem hb
        rw [List.length_drop] at hj
        rw [List.getElem_drop]
        exact hhi _ (by omega) (by omega)
      have ht : ∀ a ∈ l.take k, ltB a s = true := fun a ha => by
        obtain ⟨j, hj, rfl⟩ := List.getElem_of_mem ha
        rw [List.length_take] at hj
        rw [List.getElem_take]
        have hk1 : k - 1 < l.length := by omega
        obtain ⟨h2, h3⟩ := h1 hk1 (by omega)
        have h4 := lt_total h2 h3
        by_cases e : j = k - 1
        · subst e; exact h4
        · exact ltB_trans (List.pairwise_iff_getElem.1 hl j (k - 1) (by omega) hk1 (by omega)) h4
      refine ⟨hl.sublist (List.take_sublist _ _), ⟨hd, hl.sublist (List.drop_sublist _ _)⟩, fun a ha b hb => ?_⟩
      rcases List.mem_cons.1 hb with rfl | hb
      · exact ht a ha
      · exact ltB_trans (ht a ha) (hd b hb)
    · conv => rhs; rw [← List.take_append_drop k l]
      simp only [List.mem_append, List.mem_cons]
      constructor
      · rintro (h | h | h)
        · exact Or.inr (Or.inl h)
        · exact Or.inl h
        · exact Or.inr (Or.inr h)
      · rintro (h | h | h)
        · exact Or.inr (Or.inl h)
        · exact Or.inl h
        · exact Or.inr (Or.inr h)

def baOf (l : List UInt8) : ByteArray := ⟨l.toArray⟩
def strsOf (l : List ByteArray) : List (List UInt8) := l.map fun s => s.data.toList
theorem baOf_toList (s : ByteArray) : baOf s.data.toList = s := rfl
theorem map_baOf (l : List ByteArray) : (strsOf l).map baOf = l := by
  unfold strsOf
  rw [List.map_map]
  conv => rhs; rw [← List.map_id l]
  rfl

theorem bytesLess_iff : ∀ (a b : List UInt8), Op.bytesLess a b = true ↔ a < b
  | [], [] => by simp [Op.bytesLess]
  | [], _ :: _ => by simp [Op.bytesLess]
  | _ :: _, [] => by simp [Op.bytesLess]
  | x :: a, y :: b => by
    have := bytesLess_iff a b
    simp [Op.bytesLess, List.cons_lt_cons_iff, this]

theorem ltB_baOf (a b : List UInt8) : ltB (baOf a) (baOf b) = true ↔ a < b := by
  unfold ltB
  rw [← bytesLess_iff]
  simp [baOf, ByteArray.toList_eq]

/-- Of a sorted list each once. -/
theorem compact_inv (d : Array (List UInt8)) (hs : ∀ i j, i ≤ j → j < d.size → d[i]! ≤ d[j]!) : ∀ m, m ≤ d.size →
    (Lib.compactUpTo d m).Pairwise (· < ·) ∧ ∀ x, x ∈ Lib.compactUpTo d m ↔ ∃ j, j < m ∧ x = d[j]!
  | 0, _ => ⟨by simp [Lib.compactUpTo], fun x => by simp [Lib.compactUpTo]⟩
  | m + 1, hm => by
    obtain ⟨h1, h2⟩ := compact_inv d hs m (by omega)
    rw [Lib.compactUpTo_succ]
    by_cases hk : Lib.keeps d m = true
    · rw [if_pos hk]
      refine ⟨List.pairwise_append.2 ⟨h1, List.pairwise_singleton _ _, fun a ha b hb => ?_⟩, fun x => ?_⟩
      · rw [List.mem_singleton] at hb
        subst hb
        obtain ⟨j, hj, rfl⟩ := (h2 a).1 ha
        have h3 := hs j (m - 1) (by omega) (by omega)
        have h4 := hs (m - 1) m (by omega) (by omega)
        have h5 : d[m]! ≠ d[m - 1]! := by
          unfold Lib.keeps at hk
          have := of_decide_eq_true hk
          rcases this with h | h
          · omega
          · exact h
        exact Std.lt_of_le_of_lt h3 (Std.lt_of_le_of_ne h4 (Ne.symm h5))
      · rw [List.mem_append, h2, List.mem_singleton]
        constructor
        · rintro (⟨j, hj, rfl⟩ | rfl)
          · exact ⟨j, by omega, rfl⟩
          · exact ⟨m, by omega, rfl⟩
        · rintro ⟨j, hj, rfl⟩
          by_cases e : j = m
          · subst e; exact Or.inr rfl
          · exact Or.inl ⟨j, by omega, rfl⟩
    · rw [if_neg hk, List.append_nil]
      refine ⟨h1, fun x => ?_⟩
      rw [h2]
      constructor
      · rintro ⟨j, hj, rfl⟩
        exact ⟨j, by omega, rfl⟩
      · rintro ⟨j, hj, rfl⟩
        by_cases e : j = m
        · subst e
          have : ¬ (j = 0 ∨ d[j]! ≠ d[j - 1]!) := fun h => hk (decide_eq_true h)
          rw [not_or] at this
          refine ⟨j - 1, by omega, ?_⟩
          exact Decidable.not_not.1 this.2
        · exact ⟨j, by omega, rfl⟩

/-- What sorting and compacting makes of texts. -/
def setL (l : List ByteArray) : List ByteArray := (Lib.compact ((strsOf l).mergeSort fun x y => decide (x ≤ y))).map baOf

theorem setL_spec (l : List ByteArray) : Rise (setL l) ∧ ∀ x, x ∈ setL l ↔ x ∈ l := by
  have hp := List.mergeSort_perm (strsOf l) fun x y => decide (x ≤ y)
  have hs := List.pairwise_mergeSort (le := fun x y : List UInt8 => decide (x ≤ y)) (fun a b c h1 h2 => decide_eq_true (Std.le_trans (of_decide_eq_true h1) (of_decide_eq_true h2)))
    (fun a b => by simpa using Std.le_total (a := a) (b := b)) (strsOf l)
  unfold setL
  generalize (strsOf l).mergeSort (fun x y => decide (x ≤ y)) = ss at *
  have hd : ∀ i j, i ≤ j → j < ss.toArray.size → ss.toArray[i]! ≤ ss.toArray[j]! := fun i j hij hj => by
    have hj' : j < ss.length := by simpa using hj
    rw [getElem!_pos ss.toArray i (by simp; omega), getElem!_pos ss.toArray j hj]
    by_cases e : i = j
    · subst e; exact Std.le_refl _
    · have := List.pairwise_iff_getElem.1 hs i j (by omega) hj' (by omega)
      simpa using this
  obtain ⟨h1, h2⟩ := compact_inv ss.toArray hd ss.length (by simp)
  unfold Lib.compact
  refine ⟨?_, fun x => ?_⟩
  · unfold Rise
    rw [List.pairwise_map]
    exact h1.imp fun h => (ltB_baOf _ _).2 h
  · rw [List.mem_map]
    constructor
    · rintro ⟨y, hy, rfl⟩
      obtain ⟨j, hj, rfl⟩ := (h2 y).1 hy
      rw [getElem!_pos ss.toArray j (by simpa using hj)]
      have : ss[j] ∈ strsOf l := hp.mem_iff.1 (List.getElem_mem hj)
      unfold strsOf at this
      obtain ⟨s, hs1, hs2⟩ := List.mem_map.1 this
      show baOf ss[j] ∈ l
      rw [← hs2]
      exact hs1
    · intro hx
      have : x.data.toList ∈ ss := hp.mem_iff.2 (List.mem_map.2 ⟨x, hx, rfl⟩)
      obtain ⟨j, hj, e⟩ := List.getElem_of_mem this
      refine ⟨x.data.toList, (h2 _).2 ⟨j, hj, ?_⟩, rfl⟩
      rw [getElem!_pos ss.toArray j (by simpa using hj)]
      exact e.symm

end Go.Proofs.Ytkcidneefdaaiaa
