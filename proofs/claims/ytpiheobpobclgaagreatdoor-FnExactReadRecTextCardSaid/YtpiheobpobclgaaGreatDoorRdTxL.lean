/- The text of a good record falls apart again. Plain lemmas. -/
import Derived.Test.YtpiheobpobclgaaGreatDoorRecT2
import Derived.Test.YtpiheobpobclgaaGreatDoorSplitL
namespace Go.Proofs.YtpiheobpobclgaaGreatDoor
open Go.Lib

theorem decDig : ∀ u : Nat, ∀ b ∈ decDigits u, 48 ≤ b.toNat ∧ b.toNat ≤ 57 := by
  intro u
  induction u using Nat.strongRecOn with
  | ind u ih =>
    intro b hb
    by_cases h : u < 10
    · rw [decDigits_one h, List.mem_singleton] at hb
      subst hb
      rw [UInt8.toNat_ofNat']
      omega
    · rw [decDigits_big h, List.mem_append, List.mem_singleton] at hb
      rcases hb with hb | rfl
      · exact ih _ (by omega) b hb
      · rw [UInt8.toNat_ofNat']
        omega
theorem dec_free {c : UInt8} (n : Nat) (h : c.toNat < 48 ∨ 57 < c.toNat) : Free c (decDigits n) := fun b hb e => by
  subst e
  have := decDig n _ hb
  omega
theorem hasLfree {c : UInt8} {l others : List UInt8} (h : hasL l others = true) (h1 : lowB c = false) (h2 : others.contains c = false) : Free c l := by
  intro b hb e
  subst e
  unfold hasL at h
  have := List.all_eq_true.1 h b hb
  rw [h1, h2] at this
  cases this
theorem bytesInj {a b : ByteArray} (h : a.data.toList = b.data.toList) : a = b := ByteArray.ext (Array.toList_inj.1 h)
def cat (c : UInt8) (s : ByteArray) : ByteArray := ⟨#[c]⟩ ++ s
theorem cat_list (c : UInt8) (s : ByteArray) : (cat c s).data.toList = c :: s.data.toList := by unfold cat; rw [ByteArray.data_append]; simp
/-- A write's word. -/
def wrW (x : WriteD) : ByteArray := cat 33 (if x.Gone then x.Key ++ ⟨#[45]⟩ else (x.Key ++ ⟨#[61]⟩) ++ x.Val)
def txnW (x : RecD) : List ByteArray := if x.Kind = 4 then [] else [numT x.Txn.toNat]
def timeW (x : RecD) : ByteArray := if 0 < x.Time.toNat then cat 64 (numT x.Time.toNat) else ⟨#[110, 111]⟩
def prepW (x : RecD) : List ByteArray := if x.Kind = 1 then cat 62 (numT x.Lead.toNat) :: (x.Reads.map (cat 63) ++ x.Writes.map wrW) else []
/-- The words behind the first. -/
def restW (x : RecD) : List ByteArray := txnW x ++ timeW x :: prepW x
def recTx (x : RecD) : ByteArray := recT x.Kind x.Txn.toNat x.Time.toNat x.Lead.toNat x.Reads x.Writes

theorem tail_snoc (sep : List UInt8) (r : List (List UInt8)) (y : List UInt8) : joinTail sep (r ++ [y]) = joinTail sep r ++ (sep ++ y) := by unfold joinTail; simp
theorem tail_app (sep : List UInt8) (r s : List (List UInt8)) : joinTail sep (r ++ s) = joinTail sep r ++ joinTail sep s := by unfold joinTail; simp
theorem rdsT_list (l : List ByteArray) : ∀ h : ByteArray, (rdsT h l).data.toList = h.data.toList ++ joinTail [32] ((l.map (cat 63)).map (·.data.toList)) := by
  induction l with
  | nil => intro h; simp [rdsT, joinTail]
  | cons x r ih =>
    intro h
    show (rdsT (h ++ (⟨#[32, 63]⟩ ++ x)) r).data.toList = _
    rw [ih]
    simp [joinTail, ByteArray.data_append, cat_list]
theorem wrsT_list (l : List WriteD) : ∀ h : ByteArray, (wrsT h l).data.toList = h.data.toList ++ joinTail [32] ((l.map wrW).map (·.data.toList)) := by
  induction l with
  | nil => intro h; simp [wrsT, joinTail]
  | cons x r ih =>
    intro h
    show (wrsT (wT h x) r).data.toList = _
    rw [ih]
    unfold wT
    cases hg : x.Gone <;> simp [joinTail, ByteArray.data_append, wrW, cat_list, hg]
theorem headT_list (x : RecD) : (headT x.Kind x.Txn.toNat x.Time.toNat).data.toList = (wordB x.Kind).data.toList ++ joinTail [32] ((txnW x ++ [timeW x]).map (·.data.toList)) := by
  unfold headT txnW timeW
  by_cases hk : x.Kind = 4 <;> by_cases ht : 0 < x.Time.toNat <;> simp [hk, ht, joinTail, ByteArray.data_append, cat_list]
theorem recTx_list (x : RecD) : (recTx x).data.toList = joined [32] (((wordB x.Kind) :: restW x).map (·.data.toList)) := by
  rw [List.map_cons, joined_tail]
  unfold recTx recT restW prepW
  by_cases hk : x.Kind = 1
  · rw [if_pos hk, if_pos hk, wrsT_list, rdsT_list, ByteArray.data_append, Array.toList_append, headT_list, ByteArray.data_append, Array.toList_append]
    rw [show txnW x ++ timeW x :: (cat 62 (numT x.Lead.toNat) :: (x.Reads.map (cat 63) ++ x.Writes.map wrW)) = (txnW x ++ [timeW x]) ++ ([cat 62 (numT x.Lead.toNat)] ++ (x.Reads.map (cat 63) ++ x.Writes.map wrW)) from by simp]
    simp only [List.map_append, tail_app]
    simp [joinTail, cat_list]
  · rw [if_neg hk, if_neg hk, headT_list]

theorem wordB_free (K : Int) : Free 32 (wordB K).data.toList := by
  have key : hasL (wordB K).data.toList [] = true := by
    unfold wordB
    repeat (first | (split; decide) | decide)
  exact hasLfree key rfl rfl
theorem key_free {s : ByteArray} {c : UInt8} (h : keyB s = true) (h1 : lowB c = false) (h2 : c ≠ 46 ∧ c ≠ 47) : Free c s.data.toList := by
  unfold keyB at h
  simp only [Bool.and_eq_true] at h
  exact hasLfree h.2 h1 (by simp [h2.1, h2.2])
theorem val_free {x : WriteD} {c : UInt8} (h : storedB x.Val x.Gone = true) (h1 : lowB c = false) (h2 : [46, 45, 44, 95].contains c = false) : Free c x.Val.data.toList := by
  unfold storedB valB at h
  simp only [Bool.and_eq_true] at h
  exact hasLfree h.1.2 h1 h2
theorem free_cons {c b : UInt8} {l : List UInt8} (h1 : b ≠ c) (h : Free c l) : Free c (b :: l) := fun x hx => by
  rcases List.mem_cons.1 hx with rfl | hx
  · exact h1
  · exact h x hx
theorem free_app {c : UInt8} {l m : List UInt8} (h1 : Free c l) (h : Free c m) : Free c (l ++ m) := fun x hx => by
  rcases List.mem_append.1 hx with hx | hx
  · exact h1 x hx
  · exact h x hx
theorem wrW_list (x : WriteD) : (wrW x).data.toList = 33 :: (if x.Gone then x.Key.data.toList ++ [45] else x.Key.data.toList ++ 61 :: x.Val.data.toList) := by
  unfold wrW
  rw [cat_list]
  cases x.Gone <;> simp [ByteArray.data_append]

/-- What a good record says of its parts. -/
theorem good_parts {x : RecD} (h : goodRB x = true) : (∀ k ∈ x.Reads, keyB k = true) ∧ (∀ y ∈ x.Writes, (keyB y.Key && storedB y.Val y.Gone) = true) := by
  have bare : bareB x.Lead x.Reads.length x.Writes.length = true → x.Reads = [] ∧ x.Writes = [] := fun h => by
    unfold bareB at h
    simp only [Bool.and_eq_true, decide_eq_true_eq] at h
    exact ⟨List.eq_nil_of_length_eq_zero h.2.1, List.eq_nil_of_length_eq_zero h.2.2⟩
  rcases rec_kinds x.Kind with k | k | k | k
  · rw [goodRB_1 k] at h
    unfold prepB at h
    simp only [Bool.and_eq_true] at h
    obtain ⟨_, _, _, _, h5, _, h7, _⟩ := h
    refine ⟨fun s hs => ?_, fun y hy => ?_⟩
    · obtain ⟨j, hj, rfl⟩ := List.getElem_of_mem hs
      exact ((pB_iff.1 h5) j hj hj).1
    · obtain ⟨j, hj, rfl⟩ := List.getElem_of_mem hy
      exact ((goodWB_at h7).2 j hj hj).1
  · rw [goodRB_2 k] at h
    unfold doneB at h
    simp only [Bool.and_eq_true] at h
    obtain ⟨e1, e2⟩ := bare h.1
    rw [e1, e2]
    exact ⟨by simp, by simp⟩
  · rw [goodRB_4 k] at h
    unfold floorB at h
    simp only [Bool.and_eq_true] at h
    obtain ⟨e1, e2⟩ := bare h.1
    rw [e1, e2]
    exact ⟨by simp, by simp⟩
  · rw [goodRB_no k] at h
    cases h
theorem words_free {x : RecD} (h : goodRB x = true) : ∀ p ∈ ((wordB x.Kind) :: restW x).map (·.data.toList), Free 32 p := by
  obtain ⟨g1, g2⟩ := good_parts h
  intro p hp
  obtain ⟨s, hs, rfl⟩ := List.mem_map.1 hp
  rcases List.mem_cons.1 hs with rfl | hs
  · exact wordB_free _
  unfold restW at hs
  rcases List.mem_append.1 hs with hs | hs
  · unfold txnW at hs
    split at hs
    · cases hs
    · rw [List.mem_singleton] at hs; subst hs; exact dec_free _ (by decide)
  rcases List.mem_cons.1 hs with rfl | hs
  · unfold timeW
    split
    · show Free 32 (cat 64 _).data.toList
      rw [cat_list]; exact free_cons (by decide) (dec_free _ (by decide))
    · intro b hb e
      subst e
      revert hb
      decide
  unfold prepW at hs
  split at hs
  · rcases List.mem_cons.1 hs with rfl | hs
    · show Free 32 (cat 62 _).data.toList
      rw [cat_list]; exact free_cons (by decide) (dec_free _ (by decide))
    rcases List.mem_append.1 hs with hs | hs
    · obtain ⟨k, hk, rfl⟩ := List.mem_map.1 hs
      show Free 32 (cat 63 _).data.toList
      rw [cat_list]; exact free_cons (by decide) (key_free (g1 k hk) rfl (by decide))
    · obtain ⟨y, hy, rfl⟩ := List.mem_map.1 hs
      have hh := g2 y hy
      simp only [Bool.and_eq_true] at hh
      show Free 32 (wrW y).data.toList
      rw [wrW_list]
      refine free_cons (by decide) ?_
      split
      · exact free_app (key_free hh.1 rfl (by decide)) (free_cons (by decide) fun _ h => by cases h)
      · exact free_app (key_free hh.1 rfl (by decide)) (free_cons (by decide) (val_free hh.2 rfl rfl))
  · cases hs
/-- strings.Split and spec.l1Split at the blank give a record's words. -/
theorem recTx_split {x : RecD} (h : goodRB x = true) : split (recTx x).data.toList [32] = ((wordB x.Kind) :: restW x).map (·.data.toList) ∧ spl 32 [] (recTx x).data.toList = ((wordB x.Kind) :: restW x).map (·.data.toList) := by
  have hf := words_free h
  rw [recTx_list]
  rw [List.map_cons] at hf ⊢
  refine ⟨split_joined 32 [] _ _ hf, ?_⟩
  exact (spl_joined 32 [] (fun b hb => by cases hb) _ _ [] hf).trans (congrArg (List.cons _) (List.map_id _))

end Go.Proofs.YtpiheobpobclgaaGreatDoor
