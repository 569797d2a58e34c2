/- The text of good operations falls apart again. Plain lemmas. -/
import Derived.Test.YtpiheobpobclgaaDoorOpsT1
import Derived.Test.YtpiheobpobclgaaDoorSplitL
namespace Go.Proofs.YtpiheobpobclgaaDoor
open Go.Lib

theorem decDigits_dig : ∀ u : Nat, ∀ b ∈ decDigits u, 48 ≤ b.toNat ∧ b.toNat ≤ 57 := by
  intro u
  induction u using Nat.strongRecOn with
  | ind u ih =>
    intro b hb
    by_cases h : u < 10
    · rw [decDigits_one h, List.mem_singleton] at hb
      subst hb
      rw [UInt8.toNat_ofNat']
      omega
    · rw [decDigits_big h, List.mem_append, List.mem_singleton] at hb
      rcases hb with hb | rfl
      · exact ih _ (by omega) b hb
      · rw [UInt8.toNat_ofNat']
        omega
theorem itoa_free {c : UInt8} (n : Int) (h1 : c ≠ 45) (h2 : c.toNat < 48 ∨ 57 < c.toNat) : Free c (itoa n) := by
  intro b hb e
  subst e
  unfold itoa at hb
  split at hb
  · rcases List.mem_cons.1 hb with rfl | hb
    · exact h1 rfl
    · have := decDigits_dig _ _ hb; omega
  · have := decDigits_dig _ _ hb; omega
theorem hasL_free {c : UInt8} {l others : List UInt8} (h : hasL l others = true) (h1 : lowB c = false) (h2 : others.contains c = false) : Free c l := by
  intro b hb e
  subst e
  unfold hasL at h
  have := List.all_eq_true.1 h b hb
  rw [h1, h2] at this
  cases this

/-- The words of an operation's text. -/
def partsO (x : OpD) : List (List UInt8) := if x.Kind = 2 ∨ x.Kind = 7 then [(wordO x.Kind).data.toList, x.Key.data.toList, x.Val.data.toList] else if x.Kind = 4 ∨ x.Kind = 5 then [(wordO x.Kind).data.toList, x.Key.data.toList, itoa x.By] else [(wordO x.Kind).data.toList, x.Key.data.toList]
theorem opT_parts (x : OpD) : (opT x).data.toList = joined [32] (partsO x) := by
  unfold opT partsO headO intT
  split
  · simp [joined, ByteArray.data_append]
  · split
    · simp [joined, ByteArray.data_append]
    · simp [joined, ByteArray.data_append]
theorem wordO_free {c : UInt8} (h : lowB c = false) (K : Int) : Free c (wordO K).data.toList := by
  have key : hasL (wordO K).data.toList [] = true := by
    unfold wordO
    repeat (first | (split; decide) | decide)
  exact hasL_free key h rfl
/-- A good operation's words hold neither a blank nor a semicolon. -/
theorem parts_free {c : UInt8} (hc : c = 32 ∨ c = 59) {x : OpD} (h : opB x = true) : ∀ p ∈ partsO x, Free c p := by
  have hl : lowB c = false := by rcases hc with rfl | rfl <;> decide
  have hk : Free c x.Key.data.toList := by
    unfold opB at h
    simp only [Bool.and_eq_true] at h
    have h1 := h.1
    unfold keyB at h1
    simp only [Bool.and_eq_true] at h1
    exact hasL_free h1.2 hl (by rcases hc with rfl | rfl <;> decide)
  intro p hp
  unfold partsO at hp
  split at hp
  · rename_i hv
    have hval : Free c x.Val.data.toList := by
      obtain ⟨K, key, val, b⟩ := x
      rw [opB_V hv] at h
      simp only [Bool.and_eq_true] at h
      have h2 := h.2.1
      unfold valB at h2
      simp only [Bool.and_eq_true] at h2
      exact hasL_free h2.2 hl (by rcases hc with rfl | rfl <;> decide)
    simp only [List.mem_cons, List.mem_nil_iff, or_false] at hp
    rcases hp with rfl | rfl | rfl
    · exact wordO_free hl _
    · exact hk
    · exact hval
  · split at hp
    · simp only [List.mem_cons, List.mem_nil_iff, or_false] at hp
      rcases hp with rfl | rfl | rfl
      · exact wordO_free hl _
      · exact hk
      · exact itoa_free _ (by rcases hc with rfl | rfl <;> decide) (by rcases hc with rfl | rfl <;> decide)
    · simp only [List.mem_cons, List.mem_nil_iff, or_false] at hp
      rcases hp with rfl | rfl
      · exact wordO_free hl _
      · exact hk
/-- strings.Split and spec.l1Split at the blank give an operation's words. -/
theorem opT_split {x : OpD} (h : opB x = true) : split (opT x).data.toList [32] = partsO x ∧ spl 32 [] (opT x).data.toList = partsO x := by
  have hf := parts_free (Or.inl rfl) h
  rw [opT_parts]
  cases hp : partsO x with
  | nil => exact absurd hp (by unfold partsO; split <;> (try split) <;> simp)
  | cons p r =>
    rw [hp] at hf
    refine ⟨split_joined 32 [] p r hf, ?_⟩
    have := spl_joined 32 [] (fun b hb => by cases hb) p r [] hf
    simpa using this

theorem joined_free {c : UInt8} {sep : List UInt8} (hs : Free c sep) : ∀ l : List (List UInt8), (∀ p ∈ l, Free c p) → Free c (joined sep l)
  | [], _ => fun b hb => by cases hb
  | [p], h => h p (List.mem_cons_self ..)
  | p :: q :: r, h => by
    intro b hb
    have hb2 : b ∈ p ++ (sep ++ joined sep (q :: r)) := hb
    rcases List.mem_append.1 hb2 with hb | hb
    · exact h p (List.mem_cons_self ..) b hb
    rcases List.mem_append.1 hb with hb | hb
    · exact hs b hb
    · exact joined_free hs (q :: r) (fun x hx => h x (List.mem_cons_of_mem _ hx)) b hb
theorem opT_free {x : OpD} (h : opB x = true) : Free 59 (opT x).data.toList := by
  rw [opT_parts]
  exact joined_free (fun b hb => by rw [List.mem_singleton] at hb; subst hb; decide) _ (parts_free (Or.inr rfl) h)
theorem opsS_joined (l : List OpD) : (opsS l).data.toList = joined [59, 32] ((l.map opT).map (·.data.toList)) := by
  rw [← join_opsS, joined_join]
/-- The parts of good operations' text, at impl and at spec. -/
theorem opsS_split {x : OpD} {r : List OpD} (h : ∀ y ∈ x :: r, opB y = true) :
    split (opsS (x :: r)).data.toList [59, 32] = ((x :: r).map opT).map (·.data.toList) ∧
    spl 59 [] (opsS (x :: r)).data.toList = (opT x).data.toList :: (r.map fun y => 32 :: (opT y).data.toList) := by
  have hf : ∀ p ∈ ((x :: r).map opT).map (·.data.toList), Free 59 p := fun p hp => by
    rw [List.map_map] at hp
    obtain ⟨y, hy, rfl⟩ := List.mem_map.1 hp
    exact opT_free (h y hy)
  rw [opsS_joined]
  simp only [List.map_cons] at hf ⊢
  refine ⟨split_joined 59 [32] _ _ hf, ?_⟩
  rw [spl_joined 59 [32] (fun b hb => by rw [List.mem_singleton] at hb; subst hb; decide) _ _ [] hf]
  simp

end Go.Proofs.YtpiheobpobclgaaDoor
