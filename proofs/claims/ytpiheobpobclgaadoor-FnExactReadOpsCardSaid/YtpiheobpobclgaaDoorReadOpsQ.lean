/- What ReadOps returns. Plain. -/
import Derived.Test.YtpiheobpobclgaaDoorReadOpsP
namespace Go.Proofs.YtpiheobpobclgaaDoor
open Go.Lib

theorem opT_inj {x y : OpD} (hx : opB x = true) (hy : opB y = true) (h : opT x = opT y) : x = y := by
  have h1 := (opT_split hx).2
  rw [h, (opT_split hy).2] at h1
  have e : strsO x = strsO y := by
    refine strsO_of ?_ |>.trans rfl |> fun (e : strsO x = strsO y) => e
    rw [h1]
    unfold partsO strsO intT
    split
    · rfl
    · split <;> rfl
  rw [← (reads_back hx).1, ← (reads_back hy).1, e]
theorem opsT_inj : ∀ {l m : List OpD}, (∀ x ∈ l, opB x = true) → (∀ x ∈ m, opB x = true) → l.map opT = m.map opT → l = m
  | [], [], _, _, _ => rfl
  | [], _ :: _, _, _, h => by cases h
  | _ :: _, [], _, _, h => by cases h
  | x :: l, y :: m, hx, hy, h => by
    simp only [List.map_cons, List.cons.injEq] at h
    rw [opT_inj (hx x (List.mem_cons_self ..)) (hy y (List.mem_cons_self ..)) h.1, opsT_inj (fun z hz => hx z (List.mem_cons_of_mem _ hz)) (fun z hz => hy z (List.mem_cons_of_mem _ hz)) h.2]
theorem opT_ne {x : OpD} (h : opB x = true) : opT x ≠ ⟨#[]⟩ := fun e => by
  have h1 := (opT_split h).2
  rw [e] at h1
  have h2 := congrArg List.length h1
  unfold partsO at h2
  split at h2
  · cases h2
  · split at h2 <;> cases h2
theorem opsS_ne {x : OpD} {r : List OpD} (h : ∀ y ∈ x :: r, opB y = true) : opsS (x :: r) ≠ ⟨#[]⟩ := fun e => by
  have h1 := (opsS_split h).2
  rw [e] at h1
  have h2 : [[]] = (opT x).data.toList :: (r.map fun y => 32 :: (opT y).data.toList) := h1
  injection h2 with h3 h4
  exact opT_ne (h x (List.mem_cons_self ..)) (bytes_inj h3.symm)
theorem opsS_inj {l m : List OpD} (hl : ∀ x ∈ l, opB x = true) (hm : ∀ x ∈ m, opB x = true) (h : opsS l = opsS m) : l = m := by
  cases l with
  | nil =>
    cases m with
    | nil => rfl
    | cons y m => exact absurd h.symm (opsS_ne hm)
  | cons x l =>
    cases m with
    | nil => exact absurd h (opsS_ne hl)
    | cons y m =>
      have h1 := (opsS_split hl).1
      rw [h, (opsS_split hm).1] at h1
      exact opsT_inj hl hm ((List.map_inj_right (fun _ _ => bytes_inj)).1 h1.symm)

/-- What ReadOps returns: the good operations whose text this is, if there are any. -/
noncomputable def opsR (s : ByteArray) : List OpD × Bool := open Classical in if h : ∃ l, goodOB l = true ∧ opsS l = s then (Classical.choose h, true) else ([], false)
theorem opsR_yes {s : ByteArray} {l : List OpD} (h1 : goodOB l = true) (h2 : opsS l = s) : opsR s = (l, true) := by
  have h : ∃ l, goodOB l = true ∧ opsS l = s := ⟨l, h1, h2⟩
  unfold opsR
  rw [dif_pos h]
  have hc := Classical.choose_spec h
  rw [opsS_inj (goodOB_parts hc.1).2 (goodOB_parts h1).2 (hc.2.trans h2.symm)]
theorem opsR_no {s : ByteArray} (h : ∀ l, goodOB l = true → opsS l ≠ s) : opsR s = ([], false) := by
  unfold opsR
  rw [dif_neg]
  rintro ⟨l, h1, h2⟩
  exact h l h1 h2

end Go.Proofs.YtpiheobpobclgaaDoor
