/- What the loops of ReadOps keep. Plain. -/
import Derived.Test.YtpiheobpobclgaaDoorReadOpsQ
import Derived.Test.YtpiheobpobclgaaDoorSplitS
namespace Go.Proofs.YtpiheobpobclgaaDoor
open Go.Lib

theorem readSp {x : OpD} (h : opB x = true) {xs : List ByteArray} (hx : xs.map (·.data.toList) = spl 32 [] (opT x).data.toList) : opSp xs = x := by
  rw [(opT_split h).2] at hx
  rw [strsO_of hx]
  exact (reads_back h).1
theorem readIm {x : OpD} (h : opB x = true) {xs : List ByteArray} (hx : xs.map (·.data.toList) = split (opT x).data.toList [32]) : opIm xs = x ∧ 2 ≤ xs.length := by
  rw [(opT_split h).1] at hx
  rw [strsO_of hx]
  exact (reads_back h).2

/-- Of any good operations whose text this is, the first k are there. -/
def OpsInv (s : ByteArray) (k : Nat) (out : List OpD) : Prop := ∀ l, goodOB l = true → opsS l = s → out = l.take k
theorem inv_start (s : ByteArray) : OpsInv s 0 [] := fun _ _ _ => rfl

theorem inv_end {s : ByteArray} {k : Nat} {out : List OpD} (h : OpsInv s k out) (hl : ∀ l, goodOB l = true → opsS l = s → l.length = k) :
    (goodOB out = true → opsS out = s → opsR s = (out, true)) ∧ (goodOB out = false → opsR s = ([], false)) ∧ (goodOB out = true → opsS out ≠ s → opsR s = ([], false)) := by
  have key : ∀ l, goodOB l = true → opsS l = s → out = l := fun l h1 h2 => by
    rw [h l h1 h2, ← hl l h1 h2, List.take_length]
  refine ⟨opsR_yes, fun hg => opsR_no fun l h1 h2 => ?_, fun hg hne => opsR_no fun l h1 h2 => ?_⟩
  · rw [key l h1 h2, h1] at hg; cases hg
  · exact hne (by rw [key l h1 h2]; exact h2)

theorem good_ne {s : ByteArray} (hs : s ≠ ⟨#[]⟩) {l : List OpD} (h : opsS l = s) : ∃ x r, l = x :: r := by
  cases l with
  | nil => exact absurd h.symm hs
  | cons x r => exact ⟨x, r, rfl⟩

/-- The pieces at spec. -/
theorem sp_len {s : ByteArray} (hs : s ≠ ⟨#[]⟩) {ps : List ByteArray} (hp : ps.map (·.data.toList) = spl 59 [] s.data.toList) (l : List OpD) (hl : goodOB l = true) (he : opsS l = s) : l.length = ps.length := by
  obtain ⟨x, r, rfl⟩ := good_ne hs he
  have h1 := (opsS_split (goodOB_parts hl).2).2
  rw [he, ← hp] at h1
  have h2 := congrArg List.length h1
  simp only [List.length_map, List.length_cons] at h2 ⊢
  omega
theorem sp_at {s : ByteArray} (hs : s ≠ ⟨#[]⟩) {ps : List ByteArray} (hp : ps.map (·.data.toList) = spl 59 [] s.data.toList) {l : List OpD} (hl : goodOB l = true) (he : opsS l = s) {k : Nat} (h : k < ps.length) (h' : k < l.length) :
    ps[k].data.toList = (if k = 0 then [] else [32]) ++ (opT l[k]).data.toList := by
  obtain ⟨x, r, rfl⟩ := good_ne hs he
  have h1 := (opsS_split (goodOB_parts hl).2).2
  rw [he, ← hp] at h1
  have h2 := congrArg (fun q => q[k]?) h1
  cases k with
  | zero =>
    simp only [List.getElem?_map, List.getElem?_cons_zero, List.getElem?_eq_getElem h, Option.map_some, Option.some.injEq] at h2
    simpa using h2
  | succ k =>
    have hk : k < r.length := by simpa using h'
    simp only [List.getElem?_map, List.getElem?_cons_succ, List.getElem?_eq_getElem h, List.getElem?_eq_getElem hk, Option.map_some, Option.some.injEq] at h2
    simpa using h2
/-- A step at spec. -/
theorem sp_step {s : ByteArray} (hs : s ≠ ⟨#[]⟩) {ps : List ByteArray} (hp : ps.map (·.data.toList) = spl 59 [] s.data.toList) {k : Nat} {out : List OpD} (h : OpsInv s k out) (hk : k < ps.length)
    {p : ByteArray} (hpk : p.data.toList = if k = 0 then ps[k].data.toList else ps[k].data.toList.drop 1) {xs : List ByteArray} (hx : xs.map (·.data.toList) = spl 32 [] p.data.toList) : OpsInv s (k + 1) (out ++ [opSp xs]) := by
  intro l h1 h2
  have hlen := sp_len hs hp l h1 h2
  have hkl : k < l.length := by omega
  have hat := sp_at hs hp h1 h2 hk hkl
  have e : p.data.toList = (opT l[k]).data.toList := by
    rw [hpk, hat]
    split <;> simp
  rw [e] at hx
  rw [readSp ((goodOB_parts h1).2 _ (List.getElem_mem hkl)) hx, h l h1 h2, ← List.take_succ_eq_append_getElem hkl]
theorem sp_none {s : ByteArray} (hs : s ≠ ⟨#[]⟩) {ps : List ByteArray} (hp : ps.map (·.data.toList) = spl 59 [] s.data.toList) {k : Nat} (hk : k < ps.length) (h0 : 0 < k) (he : ps[k].size = 0) : opsR s = ([], false) :=
  opsR_no fun l h1 h2 => by
    have hat := sp_at hs hp h1 h2 hk (by rw [sp_len hs hp l h1 h2]; exact hk)
    rw [if_neg (by omega)] at hat
    have h3 := congrArg List.length hat
    have h4 : ps[k].data.toList.length = 0 := by rw [Array.length_toList]; exact he
    simp [h4] at h3

/-- The pieces at impl. -/
theorem im_len {s : ByteArray} (hs : s ≠ ⟨#[]⟩) {ps : List ByteArray} (hp : ps.map (·.data.toList) = split s.data.toList [59, 32]) (l : List OpD) (hl : goodOB l = true) (he : opsS l = s) : l.length = ps.length := by
  obtain ⟨x, r, rfl⟩ := good_ne hs he
  have h1 := (opsS_split (goodOB_parts hl).2).1
  rw [he, ← hp] at h1
  have h2 := congrArg List.length h1
  simp only [List.length_map] at h2
  exact h2.symm
theorem im_at {s : ByteArray} (hs : s ≠ ⟨#[]⟩) {ps : List ByteArray} (hp : ps.map (·.data.toList) = split s.data.toList [59, 32]) {l : List OpD} (hl : goodOB l = true) (he : opsS l = s) {k : Nat} (h : k < ps.length) (h' : k < l.length) :
    ps[k].data.toList = (opT l[k]).data.toList := by
  obtain ⟨x, r, rfl⟩ := good_ne hs he
  have h1 := (opsS_split (goodOB_parts hl).2).1
  rw [he, ← hp] at h1
  have h2 := congrArg (fun q => q[k]?) h1
  simp only [List.getElem?_map, List.getElem?_eq_getElem h, List.getElem?_eq_getElem h', Option.map_some, Option.some.injEq] at h2
  exact h2
theorem im_step {s : ByteArray} (hs : s ≠ ⟨#[]⟩) {ps : List ByteArray} (hp : ps.map (·.data.toList) = split s.data.toList [59, 32]) {k : Nat} {out : List OpD} (h : OpsInv s k out) (hk : k < ps.length)
    {xs : List ByteArray} (hx : xs.map (·.data.toList) = split ps[k].data.toList [32]) : OpsInv s (k + 1) (out ++ [opIm xs]) := by
  intro l h1 h2
  have hlen := im_len hs hp l h1 h2
  have hkl : k < l.length := by omega
  rw [im_at hs hp h1 h2 hk hkl] at hx
  rw [(readIm ((goodOB_parts h1).2 _ (List.getElem_mem hkl)) hx).1, h l h1 h2, ← List.take_succ_eq_append_getElem hkl]
theorem im_none {s : ByteArray} (hs : s ≠ ⟨#[]⟩) {ps : List ByteArray} (hp : ps.map (·.data.toList) = split s.data.toList [59, 32]) {k : Nat} (hk : k < ps.length)
    {xs : List ByteArray} (hx : xs.map (·.data.toList) = split ps[k].data.toList [32]) (hn : xs.length < 2) : opsR s = ([], false) :=
  opsR_no fun l h1 h2 => by
    have hkl : k < l.length := by rw [im_len hs hp l h1 h2]; exact hk
    rw [im_at hs hp h1 h2 hk hkl] at hx
    have := (readIm ((goodOB_parts h1).2 _ (List.getElem_mem hkl)) hx).2
    omega

theorem opsR_empty : opsR ⟨#[]⟩ = ([], true) := opsR_yes (l := []) (by rfl) rfl

end Go.Proofs.YtpiheobpobclgaaDoor
