/- What spec.l5ReadOp and impl.ReadOps read of a piece; a good operation's words read back. Plain. -/
import Derived.Test.YtpiheobpobclgaaDoorReadOpsL
import Derived.Lib.SlicesS
namespace Go.Proofs.YtpiheobpobclgaaDoor
open Go.Lib

/-- The kind at spec: the last word that fits. -/
def kindS (w : ByteArray) : Int := if w = wordO 7 then 7 else if w = wordO 6 then 6 else if w = wordO 5 then 5 else if w = wordO 4 then 4 else if w = wordO 3 then 3 else if w = wordO 2 then 2 else if w = wordO 1 then 1 else 0
def wordL : List ByteArray := [⟨#[]⟩, wordO 1, wordO 2, wordO 3, wordO 4, wordO 5, wordO 6, wordO 7]
theorem kindS_word {K : Int} (h : K = 1 ∨ K = 2 ∨ K = 3 ∨ K = 4 ∨ K = 5 ∨ K = 6 ∨ K = 7) : kindS (wordO K) = K := by
  rcases h with rfl | rfl | rfl | rfl | rfl | rfl | rfl <;> decide
theorem idx_word {K : Int} (h : K = 1 ∨ K = 2 ∨ K = 3 ∨ K = 4 ∨ K = 5 ∨ K = 6 ∨ K = 7) : idxOfS wordL (wordO K) = K := by
  rcases h with rfl | rfl | rfl | rfl | rfl | rfl | rfl <;> decide
/-- spec.l5ReadOp, of the piece's words. -/
def opSp (xs : List ByteArray) : OpD :=
  let K := kindS (xs.getD 0 ⟨#[]⟩)
  ⟨K, if 1 < xs.length then xs.getD 1 ⟨#[]⟩ else ⟨#[]⟩, if 2 < xs.length ∧ (K = 2 ∨ K = 7) then xs.getD 2 ⟨#[]⟩ else ⟨#[]⟩, if 2 < xs.length ∧ ¬ (K = 2 ∨ K = 7) then (readS (xs.getD 2 ⟨#[]⟩).data.toList).1 else 0⟩
/-- impl.ReadOps, of a piece's words: at least two of them. -/
def opIm (xs : List ByteArray) : OpD :=
  let K := idxOfS wordL (xs.getD 0 ⟨#[]⟩)
  ⟨K, xs.getD 1 ⟨#[]⟩, if xs.length = 3 ∧ (K = 2 ∨ K = 7) then xs.getD 2 ⟨#[]⟩ else ⟨#[]⟩, if xs.length = 3 ∧ (K = 4 ∨ K = 5) then (readI (xs.getD 2 ⟨#[]⟩).data.toList (-9999) 9999).1 else 0⟩

theorem bytes_inj {a b : ByteArray} (h : a.data.toList = b.data.toList) : a = b := ByteArray.ext (Array.toList_inj.1 h)
/-- The words as strings. -/
def strsO (x : OpD) : List ByteArray := if x.Kind = 2 ∨ x.Kind = 7 then [wordO x.Kind, x.Key, x.Val] else if x.Kind = 4 ∨ x.Kind = 5 then [wordO x.Kind, x.Key, intT x.By] else [wordO x.Kind, x.Key]
theorem strsO_of {xs : List ByteArray} {x : OpD} (h : xs.map (·.data.toList) = partsO x) : xs = strsO x := by
  have h2 : xs.map (·.data.toList) = (strsO x).map (·.data.toList) := by
    rw [h]
    unfold partsO strsO intT
    split
    · rfl
    · split <;> rfl
  exact (List.map_inj_right (fun _ _ => bytes_inj)).1 h2
theorem size_zero {a : ByteArray} (h : a.size = 0) : a = ⟨#[]⟩ := by
  apply ByteArray.ext
  exact Array.eq_empty_of_size_eq_zero h
/-- A good operation's words read back, at both sides. -/
theorem reads_back {x : OpD} (h : opB x = true) : opSp (strsO x) = x ∧ opIm (strsO x) = x ∧ 2 ≤ (strsO x).length := by
  obtain ⟨hK, hb0, hb1⟩ := opB_parts h
  obtain ⟨K, key, val, b⟩ := x
  have ks := kindS_word hK
  have ki := idx_word hK
  dsimp only at hK hb0 hb1 ks ki
  rcases kinds K with k | k | k | k
  · rw [opB_V k] at h
    simp only [Bool.and_eq_true, decide_eq_true_eq] at h
    obtain ⟨_, _, rfl⟩ := h
    have k2 : ¬ (K = 4 ∨ K = 5) := by omega
    simp [opSp, opIm, strsO, k, k2, ks, ki]
  · rw [opB_B k] at h
    simp only [Bool.and_eq_true, decide_eq_true_eq] at h
    have hv := size_zero h.2.1
    subst hv
    have k2 : ¬ (K = 2 ∨ K = 7) := by omega
    have r2 : (readI (intT b).data.toList (-9999) 9999).1 = b := by
      show (readI (itoa b) (-9999) 9999).1 = b
      unfold readI
      rw [atoi_itoa (by omega) (by omega)]
      simp [hb0, hb1]
    have r1 : (readS (intT b).data.toList).1 = b := by
      rw [readS_eq, readI_yes (l := (intT b).data.toList) (n := b) (by omega) (by omega) rfl]
    simp [opSp, opIm, strsO, k, k2, ks, ki, r1, r2]
  · rw [opB_P k] at h
    simp only [Bool.and_eq_true, decide_eq_true_eq] at h
    obtain ⟨_, hv, rfl⟩ := h
    have hv := size_zero hv
    subst hv
    have k2 : ¬ (K = 2 ∨ K = 7) := by omega
    have k3 : ¬ (K = 4 ∨ K = 5) := by omega
    simp [opSp, opIm, strsO, k2, k3, ks, ki]
  · omega

end Go.Proofs.YtpiheobpobclgaaDoor
