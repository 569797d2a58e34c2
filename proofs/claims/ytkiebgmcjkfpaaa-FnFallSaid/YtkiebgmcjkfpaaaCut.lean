/- CutDisk, both. -/
import Derived.Test.YtkiebgmcjkfpaaaMend
import Derived.Test.YtkiebgmcjkfpaaaKit
namespace Go.Proofs.Ytkiebgmcjkfpaaa
open Go.RowKit

/-- The frames behind one another. -/
def catF : List ByteArray → ByteArray
  | [] => ⟨#[]⟩
  | s :: l => frameB s ++ catF l
theorem catF_snoc (l : List ByteArray) (s : ByteArray) : catF (l ++ [s]) = catF l ++ frameB s := by
  induction l with
  | nil => show frameB s ++ ⟨#[]⟩ = ⟨#[]⟩ ++ frameB s; rw [show (⟨#[]⟩ : ByteArray) = ByteArray.empty from rfl, ByteArray.append_empty, ByteArray.empty_append]
  | cons a l ih => show frameB a ++ catF (l ++ [s]) = (frameB a ++ catF l) ++ frameB s; rw [ih, ByteArray.append_assoc]
theorem catF_size_snoc (l : List ByteArray) (s : ByteArray) : (catF (l ++ [s])).size = (catF l).size + (frameB s).size := by rw [catF_snoc, ByteArray.size_append]

theorem frame_bytes {B : ByteArray} {st p : Nat} {s : ByteArray} (h : frameOf B st = some (s, p)) : frameB s = B.extract st p := by
  unfold frameOf at h
  by_cases hn : ∃ n, IsNum (B.data.toList.drop st) n
  · obtain ⟨n, hn⟩ := hn
    rw [numOf_some hn] at h
    simp only [cond_eq_ite, Bool.and_eq_true, decide_eq_true_eq] at h
    split at h
    · rename_i hc
      injection h with h
      injection h with h1 h2
      rw [← h1, ← h2]
      exact (frame_iff hn rfl hc.1.2).2 hc.2
    · cases h
  · rw [numOf_none (fun n hn' => hn ⟨n, hn'⟩)] at h
    cases h

theorem frames_cat {B : ByteArray} : ∀ (k st : Nat), st ≤ B.size → ∀ i, i ≤ (framesF k B st).1.length →
    st + (catF ((framesF k B st).1.take i)).size ≤ B.size ∧ B.extract st (st + (catF ((framesF k B st).1.take i)).size) = catF ((framesF k B st).1.take i) := by
  intro k
  induction k with
  | zero =>
    intro st hst i hi
    have h0 : (framesF 0 B st).1 = [] := rfl
    rw [h0, List.take_nil]
    refine ⟨by show st + 0 ≤ _; omega, ?_⟩
    show B.extract st (st + 0) = _
    rw [Nat.add_zero]
    apply bytes_nil
    rw [ByteArray.size_extract]
    omega
  | succ k ih =>
    intro st hst i hi
    cases hf : frameOf B st with
    | none =>
      rw [framesF_none (Nat.succ_pos _) hf, List.take_nil]
      refine ⟨by show st + 0 ≤ _; omega, ?_⟩
      show B.extract st (st + 0) = _
      rw [Nat.add_zero]
      apply bytes_nil
      rw [ByteArray.size_extract]
      omega
    | some sp =>
      obtain ⟨s, p⟩ := sp
      obtain ⟨h1, h2⟩ := frameOf_lt hf
      have hb := frame_bytes hf
      have hbs : (frameB s).size = p - st := by rw [hb, ByteArray.size_extract]; omega
      rw [framesF_some (Nat.succ_pos _) hf, show k.succ - 1 = k from rfl] at hi ⊢
      cases i with
      | zero =>
        refine ⟨by show st + 0 ≤ _; omega, ?_⟩
        show B.extract st (st + 0) = _
        rw [Nat.add_zero]
        apply bytes_nil
        rw [ByteArray.size_extract]
        omega
      | succ i =>
        have h3 := ih p h2 i (by simpa using hi)
        simp only [List.take_succ_cons]
        show st + (frameB s ++ catF _).size ≤ _ ∧ B.extract st (st + (frameB s ++ catF _).size) = frameB s ++ catF _
        rw [ByteArray.size_append, hbs]
        refine ⟨by omega, ?_⟩
        rw [show st + (p - st + (catF ((framesF k B p).1.take i)).size) = p + (catF ((framesF k B p).1.take i)).size from by omega]
        rw [ext_split B (show st ≤ p from by omega) (show p ≤ p + (catF ((framesF k B p).1.take i)).size from by omega), h3.2, hb]

/-- The frames of the kept bytes. -/
noncomputable def keptL (x : ByteArray) : List ByteArray := (framesF (x.size + 1) x 0).1
noncomputable def cutQ (x y : ByteArray) (n : Int) : Bool := mendQ x y && inB n 0 (keptL x).length
noncomputable def cutF (x : ByteArray) (n : Int) : ByteArray := catF ((keptL x).take n.toNat)

theorem cut_ext (x : ByteArray) (n : Nat) (h : n ≤ (keptL x).length) : (catF ((keptL x).take n)).size ≤ x.size ∧ x.extract 0 (catF ((keptL x).take n)).size = catF ((keptL x).take n) := by
  have := frames_cat (B := x) (x.size + 1) 0 (Nat.zero_le _) n h
  rw [Nat.zero_add] at this
  exact this
theorem cat_le (x : ByteArray) (k n : Nat) (hk : k ≤ n) (h : n ≤ (keptL x).length) : (catF ((keptL x).take k)).size ≤ x.size := (cut_ext x k (by omega)).1
theorem kept_size (x : ByteArray) (k : Nat) (h : k < (keptL x).length) : (keptL x)[k].size ≤ x.size := by
  have h1 := (cut_ext x (k + 1) h).1
  rw [List.take_succ_eq_append_getElem h, catF_size_snoc] at h1
  unfold frameB sealB at h1
  rw [ByteArray.size_append, ByteArray.size_append] at h1
  omega

end Go.Proofs.Ytkiebgmcjkfpaaa
