/- What ReadRecText returns. Plain. -/
import Derived.Test.YtpiheobpobclgaaGreatDoorRdTxP
import Derived.Test.YtpiheobpobclgaaGreatDoorRecT5
namespace Go.Proofs.YtpiheobpobclgaaGreatDoor
open Go.Lib

theorem bare_nil {L : Int} {R : List ByteArray} {W : List WriteD} (h : bareB L R.length W.length = true) : L = 0 ∧ R = [] ∧ W = [] := by
  unfold bareB at h
  simp only [Bool.and_eq_true, decide_eq_true_eq] at h
  exact ⟨h.1, List.eq_nil_of_length_eq_zero h.2.1, List.eq_nil_of_length_eq_zero h.2.2⟩
/-- A good record's words read back, at both sides. -/
theorem rec_back {x : RecD} (h : goodRB x = true) : resS (wordB x.Kind :: restW x) = x ∧ resI (wordB x.Kind :: restW x) = some x := by
  obtain ⟨_, ⟨b2, b3⟩, ⟨b4, b5⟩, b6, b7⟩ := goodRB_bounds h
  obtain ⟨g1, g2⟩ := good_parts h
  have hK : x.Kind = 1 ∨ (x.Kind = 2 ∨ x.Kind = 3) ∨ x.Kind = 4 := by
    rcases rec_kinds x.Kind with k | k | k | k
    · exact Or.inl k
    · exact Or.inr (Or.inl k)
    · exact Or.inr (Or.inr k)
    · rw [goodRB_no k] at h; cases h
  have ks := kindR_word hK
  have ki := idx_wordB hK
  unfold resS resI
  simp only [List.getD_cons_zero, List.drop_succ_cons, List.drop_zero, ks, ki]
  obtain ⟨K, T, Ti, L, R, Wr, Y⟩ := x
  simp only at *
  obtain ⟨T, rfl⟩ := Int.eq_ofNat_of_zero_le b2
  obtain ⟨Ti, rfl⟩ := Int.eq_ofNat_of_zero_le b4
  obtain ⟨L, rfl⟩ := Int.eq_ofNat_of_zero_le b6
  unfold restW txnW timeW prepW
  simp only [Int.toNat_natCast]
  clear ks ki hK
  rcases rec_kinds K with k | k | k | k
  · rw [goodRB_1 k] at h
    unfold prepB at h
    simp only [Bool.and_eq_true, inB_iff, Bool.not_eq_true'] at h
    obtain ⟨h1, h2, h3, _, _, _, _, _, h8⟩ := h
    subst k h8
    rw [if_neg (show ¬ (1 : Int) = 4 by decide), if_pos (show (1 : Int) = 1 from rfl)]
    constructor
    · rw [if_pos ⟨by decide, by decide, by simp⟩]
      show List.foldl stepS _ ((if 0 < Ti then cat 64 (numT Ti) else _) :: cat 62 (numT L) :: (R.map (cat 63) ++ Wr.map wrW)) = _
      rw [List.foldl_cons, List.foldl_cons, stepS_time _ _ (by omega) rfl rfl, stepS_cat, foldS_reads, foldS_writes _ _ g2]
      simp [zeroR, readD_num (n := T) (by omega), readD_num (n := L) (by omega), isYes]
    · show foldI _ (numT T :: (if 0 < Ti then cat 64 (numT Ti) else _) :: cat 62 (numT L) :: (R.map (cat 63) ++ Wr.map wrW)) = _
      rw [foldI_cons _ _ _ (stepI_txn _ _ (by omega) (by omega)), foldI_cons _ _ _ (stepI_time _ _ (by omega) rfl rfl), foldI_cons _ _ _ (stepI_cat _ 62 _ (by decide) |>.trans (by rw [if_neg (by decide), if_pos rfl, readI_num (by omega) (by omega) (by omega)]; rfl)), foldI_reads, foldI_writes _ _ g2]
      simp [zeroR, isYes]
  · rw [goodRB_2 k] at h
    unfold doneB at h
    simp only [Bool.and_eq_true, inB_iff] at h
    obtain ⟨h1, h2, h3⟩ := h
    obtain ⟨hl, rfl, rfl⟩ := bare_nil h1
    have hl0 : L = 0 := by omega
    subst hl0
    have hY : Y = (decide (0 < Ti) && isYes K) := by
      have hk : isYes K = true := by unfold isYes; rcases k with rfl | rfl <;> rfl
      rw [hk, Bool.and_true]
      cases Y
      · have h4 : (Ti : Int) = 0 := by simpa using h3
        symm
        rw [decide_eq_false_iff_not]
        omega
      · have h4 := inB_iff.1 (show inB (Ti : Int) 1 100000 = true from h3)
        symm
        rw [decide_eq_true_eq]
        omega
    have hk4 : ¬ K = 4 := by omega
    have hk1 : ¬ K = 1 := by omega
    rw [if_neg hk4, if_neg hk1]
    constructor
    · rw [if_pos ⟨by omega, hk4, by simp⟩]
      show List.foldl stepS _ [if 0 < Ti then cat 64 (numT Ti) else _] = _
      rw [List.foldl_cons, stepS_time _ _ (by omega) rfl rfl]
      simp [zeroR, readD_num (n := T) (by omega), hY]
    · show foldI _ [numT T, if 0 < Ti then cat 64 (numT Ti) else _] = _
      rw [foldI_cons _ _ _ (stepI_txn _ _ (by omega) (by omega)), foldI_cons _ _ _ (stepI_time _ _ (by omega) rfl rfl)]
      simp [zeroR, foldI, hY]
  · rw [goodRB_4 k] at h
    unfold floorB at h
    simp only [Bool.and_eq_true, inB_iff, decide_eq_true_eq, Bool.not_eq_true'] at h
    obtain ⟨h1, h2, h3, h4⟩ := h
    obtain ⟨hl, rfl, rfl⟩ := bare_nil h1
    have hl0 : L = 0 := by omega
    have ht0 : T = 0 := by omega
    subst hl0 ht0 k h4
    rw [if_pos (show (4 : Int) = 4 from rfl), if_neg (show ¬ (4 : Int) = 1 by decide)]
    constructor
    · rw [if_neg (by unfold takes; omega)]
      show List.foldl stepS _ [if 0 < Ti then cat 64 (numT Ti) else _] = _
      rw [List.foldl_cons, stepS_time _ _ (by omega) rfl rfl]
      simp [zeroR, isYes]
    · show foldI _ [if 0 < Ti then cat 64 (numT Ti) else _] = _
      rw [foldI_cons _ _ _ (stepI_time _ _ (by omega) rfl rfl)]
      simp [zeroR, foldI, isYes]
  · rw [goodRB_no k] at h
    cases h

/-- The words of a text. -/
def wordsT (s : ByteArray) : List ByteArray := (spl 32 [] s.data.toList).map fun p => ⟨p.toArray⟩
theorem words_of {x : RecD} {s : ByteArray} (h : goodRB x = true) (e : recTx x = s) : wordsT s = wordB x.Kind :: restW x ∧ (split s.data.toList [32]).map (fun p => (⟨p.toArray⟩ : ByteArray)) = wordB x.Kind :: restW x := by
  subst e
  obtain ⟨h1, h2⟩ := recTx_split h
  unfold wordsT
  rw [h1, h2, List.map_map]
  have e3 : ((fun p : List UInt8 => (⟨p.toArray⟩ : ByteArray)) ∘ fun s : ByteArray => s.data.toList) = id := funext fun s => mk_list s
  rw [e3]
  simp
theorem recTx_inj {x y : RecD} (hx : goodRB x = true) (hy : goodRB y = true) (h : recTx x = recTx y) : x = y := by
  have h1 := (words_of hx h).1
  rw [(words_of hy rfl).1] at h1
  rw [← (rec_back hx).1, ← (rec_back hy).1, h1]
/-- What ReadRecText returns: the good record whose text this is, if there is one. -/
noncomputable def recR (s : ByteArray) : RecD × Bool := open Classical in if h : ∃ x, goodRB x = true ∧ recTx x = s then (Classical.choose h, true) else (zeroR 0, false)
theorem recR_yes {s : ByteArray} {x : RecD} (h1 : goodRB x = true) (h2 : recTx x = s) : recR s = (x, true) := by
  have h : ∃ x, goodRB x = true ∧ recTx x = s := ⟨x, h1, h2⟩
  unfold recR
  rw [dif_pos h]
  have hc := Classical.choose_spec h
  rw [recTx_inj hc.1 h1 (hc.2.trans h2.symm)]
theorem recR_no {s : ByteArray} (h : ∀ x, goodRB x = true → recTx x ≠ s) : recR s = (zeroR 0, false) := by
  unfold recR
  rw [dif_neg]
  rintro ⟨x, h1, h2⟩
  exact h x h1 h2
/-- What spec read is the answer, or there is none. -/
theorem recR_S (s : ByteArray) : recR s = if goodRB (resS (wordsT s)) = true ∧ recTx (resS (wordsT s)) = s then (resS (wordsT s), true) else (zeroR 0, false) := by
  split
  · rename_i h
    exact recR_yes h.1 h.2
  · rename_i h
    refine recR_no fun x h1 h2 => h ?_
    rw [(words_of h1 h2).1, (rec_back h1).1]
    exact ⟨h1, h2⟩
/-- What impl read is the answer, or there is none. -/
theorem recR_I (s : ByteArray) : recR s = match resI ((split s.data.toList [32]).map fun p => (⟨p.toArray⟩ : ByteArray)) with | none => (zeroR 0, false) | some x => if goodRB x = true ∧ recTx x = s then (x, true) else (zeroR 0, false) := by
  cases hr : resI ((split s.data.toList [32]).map fun p => (⟨p.toArray⟩ : ByteArray)) with
  | none =>
    refine recR_no fun x h1 h2 => ?_
    rw [(words_of h1 h2).2, (rec_back h1).2] at hr
    cases hr
  | some y =>
    show _ = if goodRB y = true ∧ recTx y = s then (y, true) else (zeroR 0, false)
    split
    · rename_i h
      exact recR_yes h.1 h.2
    · rename_i h
      refine recR_no fun x h1 h2 => h ?_
      rw [(words_of h1 h2).2, (rec_back h1).2] at hr
      injection hr with hr
      subst hr
      exact ⟨h1, h2⟩
/-- ReadRecText's answer, texts of all lengths. -/
noncomputable def recRT (s : ByteArray) : RecD × Bool := if 400 < s.size then (zeroR 0, false) else recR s

end Go.Proofs.YtpiheobpobclgaaGreatDoor
