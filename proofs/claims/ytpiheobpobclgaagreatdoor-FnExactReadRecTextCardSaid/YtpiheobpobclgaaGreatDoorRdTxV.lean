/- What the loops of ReadRecText keep. Plain. -/
import Derived.Test.YtpiheobpobclgaaGreatDoorRdTxO
namespace Go.Proofs.YtpiheobpobclgaaGreatDoor

theorem stepS_len (r : RecD) (s : ByteArray) : (stepS r s).Reads.length ≤ r.Reads.length + 1 ∧ (stepS r s).Writes.length ≤ r.Writes.length + 1 := by
  unfold stepS
  split
  · exact ⟨Nat.le_succ _, Nat.le_succ _⟩
  split
  · exact ⟨Nat.le_succ _, Nat.le_succ _⟩
  split
  · exact ⟨Nat.le_succ _, Nat.le_succ _⟩
  split
  · exact ⟨by simp, Nat.le_succ _⟩
  split
  · exact ⟨Nat.le_succ _, by simp⟩
  exact ⟨Nat.le_succ _, Nat.le_succ _⟩
theorem num_len {q : Bool} {a b r : RecD} (ha : a.Reads = r.Reads ∧ a.Writes = r.Writes) (h : (bif q then some a else none) = some b) : b.Reads.length ≤ r.Reads.length + 1 ∧ b.Writes.length ≤ r.Writes.length + 1 := by
  cases q
  · cases h
  · injection h with h
    subst h
    rw [ha.1, ha.2]
    exact ⟨Nat.le_succ _, Nat.le_succ _⟩
theorem stepI_len {r b : RecD} {s : ByteArray} (h : stepI r s = some b) : b.Reads.length ≤ r.Reads.length + 1 ∧ b.Writes.length ≤ r.Writes.length + 1 := by
  unfold stepI at h
  split at h
  · injection h with h; subst h; exact ⟨Nat.le_succ _, Nat.le_succ _⟩
  split at h
  · cases h
  split at h
  · exact num_len (a := { r with Time := (readI (tl s).data.toList 1 100000).1, Yes := isYes r.Kind }) ⟨rfl, rfl⟩ h
  split at h
  · exact num_len (a := { r with Lead := (readI (tl s).data.toList 0 3).1 }) ⟨rfl, rfl⟩ h
  split at h
  · injection h with h; subst h; exact ⟨by simp, Nat.le_succ _⟩
  split at h
  · injection h with h; subst h; exact ⟨Nat.le_succ _, by simp⟩
  exact num_len (a := { r with Txn := (readI s.data.toList 1 60).1 }) ⟨rfl, rfl⟩ h
theorem drop_getD {xs : List ByteArray} : (xs.drop 1).getD 0 ⟨#[]⟩ = xs.getD 1 ⟨#[]⟩ := by
  cases xs with
  | nil => rfl
  | cons a l => cases l <;> rfl
theorem resS_plain {xs : List ByteArray} {u : ByteArray} {K : Int} (h0 : xs.getD 0 ⟨#[]⟩ = u) (hK : kindR u = K) (h : ¬ takes K (xs.drop 1)) : resS xs = (xs.drop 1).foldl stepS { zeroR K with Txn := 0 } := by
  unfold resS
  rw [h0, hK]
  exact if_neg h
theorem resS_takes {xs : List ByteArray} {u v : ByteArray} {K T : Int} (h0 : xs.getD 0 ⟨#[]⟩ = u) (hK : kindR u = K) (h1 : xs.getD 1 ⟨#[]⟩ = v) (hT : readD v.data.toList = T) (h : takes K (xs.drop 1)) : resS xs = (xs.drop 2).foldl stepS { zeroR K with Txn := T } := by
  unfold resS
  rw [h0, hK]
  refine (if_pos h).trans ?_
  rw [drop_getD, h1, hT, List.drop_drop]
theorem fold_take {α β : Type} (f : β → α → β) (b : β) (l : List α) {k : Nat} (h : k < l.length) : (l.take (k + 1)).foldl f b = f ((l.take k).foldl f b) l[k] := by
  rw [List.take_succ_eq_append_getElem h, List.foldl_append]
  rfl
/-- What is left to read: the fold behind k words. -/
theorem foldI_drop {r b : RecD} {l : List ByteArray} {k : Nat} (h : k < l.length) (e : stepI r l[k] = some b) : foldI r (l.drop k) = foldI b (l.drop (k + 1)) := by
  rw [List.drop_eq_getElem_cons h]
  exact foldI_cons _ _ _ e
theorem foldI_none {r : RecD} {l : List ByteArray} {k : Nat} (h : k < l.length) (e : stepI r l[k] = none) : foldI r (l.drop k) = none := by
  rw [List.drop_eq_getElem_cons h]
  show (match stepI r l[k] with | some r' => foldI r' (l.drop (k + 1)) | none => none) = _
  rw [e]

end Go.Proofs.YtpiheobpobclgaaGreatDoor
