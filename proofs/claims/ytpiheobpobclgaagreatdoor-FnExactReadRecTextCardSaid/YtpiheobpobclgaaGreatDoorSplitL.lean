/- Pieces joined by a separator are split again into the pieces. Plain lemmas. -/
import Derived.Test.YtpiheobpobclgaaGreatDoorSplitS
import Derived.Lib.SplitLaws
import Derived.Lib.Join
namespace Go.Proofs.YtpiheobpobclgaaGreatDoor
open Go.Lib

/-- No byte of p is c. -/
def Free (c : UInt8) (p : List UInt8) : Prop := ∀ b ∈ p, b ≠ c
theorem index_clean (c : UInt8) (t rest : List UInt8) : ∀ p : List UInt8, Free c p → index (p ++ ((c :: t) ++ rest)) (c :: t) = p.length
  | [], _ => by
    show index (c :: (t ++ rest)) (c :: t) = 0
    unfold index
    rw [if_pos (by simp)]
  | b :: p, h => by
    have hb : b ≠ c := h b (List.mem_cons_self ..)
    have ih := index_clean c t rest p fun x hx => h x (List.mem_cons_of_mem _ hx)
    show index (b :: (p ++ ((c :: t) ++ rest))) (c :: t) = ((p.length + 1 : Nat) : Int)
    unfold index
    rw [if_neg (by simp [List.isPrefixOf]; intro e; exact absurd e.symm hb), ih, if_neg (by simp)]
    omega
theorem index_free (c : UInt8) (t : List UInt8) : ∀ p : List UInt8, Free c p → index p (c :: t) = -1
  | [], _ => by unfold index; rw [if_neg (by simp)]
  | b :: p, h => by
    have hb : b ≠ c := h b (List.mem_cons_self ..)
    have ih := index_free c t p fun x hx => h x (List.mem_cons_of_mem _ hx)
    unfold index
    rw [if_neg (by simp [List.isPrefixOf]; intro e; exact absurd e.symm hb), ih, if_pos (by rfl)]
/-- The pieces with the separator between them. -/
def joined (sep : List UInt8) : List (List UInt8) → List UInt8
  | [] => []
  | [p] => p
  | p :: q :: r => p ++ (sep ++ joined sep (q :: r))
theorem joined_tail (sep : List UInt8) : ∀ (p : List UInt8) (r : List (List UInt8)), joined sep (p :: r) = p ++ joinTail sep r
  | p, [] => by simp [joined, joinTail]
  | p, q :: r => by
    show p ++ (sep ++ joined sep (q :: r)) = _
    rw [joined_tail sep q r]
    simp [joinTail]
theorem joined_join (sep : List UInt8) (l : List (List UInt8)) : joined sep l = join l sep := by
  cases l with
  | nil => rfl
  | cons p r => rw [joined_tail, join_cons]
/-- strings.Split of what was joined. -/
theorem split_joined (c : UInt8) (t : List UInt8) : ∀ (p : List UInt8) (r : List (List UInt8)), (∀ x ∈ p :: r, Free c x) → split (joined (c :: t) (p :: r)) (c :: t) = p :: r
  | p, [], h => by
    have hi := index_free c t p (h p (List.mem_cons_self ..))
    show split p (c :: t) = [p]
    unfold split
    rw [count_miss hi]
    rfl
  | p, q :: r, h => by
    have hi := index_clean c t (joined (c :: t) (q :: r)) p (h p (List.mem_cons_self ..))
    have ih := split_joined c t q r fun x hx => h x (List.mem_cons_of_mem _ hx)
    show split (p ++ ((c :: t) ++ joined (c :: t) (q :: r))) (c :: t) = _
    have hd : (p ++ ((c :: t) ++ joined (c :: t) (q :: r))).drop (p.length + (c :: t).length) = joined (c :: t) (q :: r) := by
      rw [← List.append_assoc, List.drop_append_of_le_length (by simp), List.drop_of_length_le (by simp)]
      rfl
    unfold split
    rw [count_hit (by simp) hi, hd, Nat.add_comm]
    unfold splitK
    rw [if_neg (by rw [hi]; simp), hi]
    simp only [Int.toNat_natCast, Nat.add_zero]
    rw [hd]
    unfold split at ih
    rw [ih, List.take_append_of_le_length (Nat.le_refl _), List.take_of_length_le (Nat.le_refl _)]

/-- A piece without c is taken whole. -/
theorem spl_free (c : UInt8) : ∀ (p cur rest : List UInt8), Free c p → spl c cur (p ++ rest) = spl c (cur ++ p) rest
  | [], cur, rest, _ => by simp
  | b :: p, cur, rest, h => by
    show spl c cur (b :: (p ++ rest)) = _
    rw [spl, if_neg (h b (List.mem_cons_self ..)), spl_free c p (cur ++ [b]) rest fun x hx => h x (List.mem_cons_of_mem _ hx)]
    simp
/-- spec.l1Split of what was joined by c and more: each further piece begins with the more. -/
theorem spl_joined (c : UInt8) (t : List UInt8) (ht : Free c t) : ∀ (p : List UInt8) (r : List (List UInt8)) (cur : List UInt8), (∀ x ∈ p :: r, Free c x) → spl c cur (joined (c :: t) (p :: r)) = (cur ++ p) :: r.map (t ++ ·)
  | p, [], cur, h => by
    show spl c cur p = _
    have := spl_free c p cur [] (h p (List.mem_cons_self ..))
    rw [List.append_nil] at this
    rw [this]
    rfl
  | p, q :: r, cur, h => by
    show spl c cur (p ++ ((c :: t) ++ joined (c :: t) (q :: r))) = _
    rw [spl_free c p cur _ (h p (List.mem_cons_self ..))]
    show spl c (cur ++ p) (c :: (t ++ joined (c :: t) (q :: r))) = _
    rw [spl, if_pos rfl, spl_free c t [] _ ht, spl_joined c t ht q r _ fun x hx => h x (List.mem_cons_of_mem _ hx)]
    rfl

end Go.Proofs.YtpiheobpobclgaaGreatDoor
