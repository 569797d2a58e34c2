/- The text of a record. -/
import Derived.Test.YtpiheobpobclgaaGreatDoorRecT1
import Derived.Test.YtpiheobpobclgaaGreatDoorRecm
namespace Go.Proofs.YtpiheobpobclgaaGreatDoor
open Go.RowKit

def wordB (K : Int) : ByteArray := if K = 1 then ⟨#[112, 114, 101, 112, 97, 114, 101]⟩ else if K = 2 then ⟨#[100, 101, 99, 105, 100, 101]⟩ else if K = 3 then ⟨#[100, 111, 110, 101]⟩ else ⟨#[102, 108, 111, 111, 114]⟩
def headT (K : Int) (T Ti : Nat) : ByteArray :=
  let s := if K = 4 then wordB K else wordB K ++ (⟨#[32]⟩ ++ numT T)
  if 0 < Ti then s ++ (⟨#[32, 64]⟩ ++ numT Ti) else s ++ ⟨#[32, 110, 111]⟩
def rdsT (h : ByteArray) (l : List ByteArray) : ByteArray := l.foldl (fun s k => s ++ (⟨#[32, 63]⟩ ++ k)) h
def wT (s : ByteArray) (x : WriteD) : ByteArray := if x.Gone then s ++ ((⟨#[32, 33]⟩ ++ x.Key) ++ ⟨#[45]⟩) else s ++ (((⟨#[32, 33]⟩ ++ x.Key) ++ ⟨#[61]⟩) ++ x.Val)
def wrsT (h : ByteArray) (l : List WriteD) : ByteArray := l.foldl wT h
def recT (K : Int) (T Ti L : Nat) (R : List ByteArray) (Wr : List WriteD) : ByteArray := if K = 1 then wrsT (rdsT (headT K T Ti ++ (⟨#[32, 62]⟩ ++ numT L)) R) Wr else headT K T Ti

theorem rdsT_snoc (h : ByteArray) (l : List ByteArray) (x : ByteArray) : rdsT h (l ++ [x]) = rdsT h l ++ (⟨#[32, 63]⟩ ++ x) := by unfold rdsT; rw [List.foldl_append]; rfl
theorem wrsT_snoc (h : ByteArray) (l : List WriteD) (x : WriteD) : wrsT h (l ++ [x]) = wT (wrsT h l) x := by unfold wrsT; rw [List.foldl_append]; rfl
theorem rdsT_size (h : ByteArray) (l : List ByteArray) (k : Nat) (hk : k ≤ l.length) : (rdsT h (l.take k)).size ≤ h.size + sumSize l + 2 * k := by
  have hle : (rdsT h (l.take k)).size ≤ h.size + sumSize (l.take k) + 2 * k := by
    induction k with
    | zero => show h.size ≤ _; omega
    | succ k ih =>
      rw [List.take_succ_eq_append_getElem (by omega), rdsT_snoc, ByteArray.size_append, ByteArray.size_append]
      have := ih (by omega)
      have h2 := sumSize_take l k (by omega)
      rw [List.take_succ_eq_append_getElem (by omega)] at h2
      have : (⟨#[32, 63]⟩ : ByteArray).size = 2 := rfl
      omega
  have := sumSize_le l k
  omega
theorem wT_size (s : ByteArray) (x : WriteD) : (wT s x).size ≤ s.size + costWrite x + 3 := by
  unfold wT costWrite
  split
  · simp only [ByteArray.size_append]
    have : (⟨#[32, 33]⟩ : ByteArray).size = 2 := rfl
    have : (⟨#[45]⟩ : ByteArray).size = 1 := rfl
    omega
  · simp only [ByteArray.size_append]
    have : (⟨#[32, 33]⟩ : ByteArray).size = 2 := rfl
    have : (⟨#[61]⟩ : ByteArray).size = 1 := rfl
    omega
theorem wrsT_size (h : ByteArray) (l : List WriteD) (k : Nat) (hk : k ≤ l.length) : (wrsT h (l.take k)).size ≤ h.size + sumC costWrite l + 3 * k := by
  have hle : (wrsT h (l.take k)).size ≤ h.size + sumC costWrite (l.take k) + 3 * k := by
    induction k with
    | zero => show h.size ≤ _; omega
    | succ k ih =>
      rw [List.take_succ_eq_append_getElem (by omega), wrsT_snoc]
      have := wT_size (wrsT h (l.take k)) (l[k]'(by omega))
      have := ih (by omega)
      have h2 := sumC_take costWrite l k (by omega)
      rw [List.take_succ_eq_append_getElem (by omega)] at h2
      omega
  have := sumC_le costWrite l k
  omega

/-- A number's text, at impl. -/
theorem itoaN_any (n : Nat) (h : n ≤ 1000000) (w : World) (hT : TabW w) : Calls Tryz.prog 41 #[.int .i64 (n : Int)] w fun e w' => e = .returned (.string (numT n)) ∧ Below w.heap.size w w' := by
  have := itoa_any (n : Int) (by omega) (by omega) w hT
  rw [Lib.itoa_nonneg] at this
  exact this

set_option maxRecDepth 100000 in
/-- impl.recWords -/
theorem recWords_any (w : World) : Calls Tryz.prog 17 #[] w fun e w' => ∃ N : Nat, e = .returned (.slice (some ⟨N, 0, none⟩) 5 5) ∧ w.heap.size ≤ N ∧ w'.cell? ⟨N, 1, none⟩ = some (.string (wordB 1)) ∧ w'.cell? ⟨N, 2, none⟩ = some (.string (wordB 2)) ∧ w'.cell? ⟨N, 3, none⟩ = some (.string (wordB 3)) ∧ w'.cell? ⟨N, 4, none⟩ = some (.string (wordB 4)) ∧ Below w.heap.size w w' := by
  go_enter Tryz.func17, Tryz.ntmps17
  go_wp2
  go_ret
  exact ⟨w.heap.size, rfl, Nat.le_refl _, by simp [go_sem]; rfl, by simp [go_sem]; rfl, by simp [go_sem]; rfl, by simp [go_sem]; rfl, by (repeat (first | (with_reducible exact Below.refl _ _) | (with_reducible refine below_setCell ?_ (by first | (simp; done) | (simp; omega) | omega)) | (with_reducible refine below_alloc _ ?_) | (with_reducible refine below_drewN ?_ _) | (with_reducible assumption) | (with_reducible refine below_after (by assumption) ?_)))⟩

set_option maxRecDepth 100000 in
/-- spec.l4Words -/
theorem l4Words_any (w : World) : Calls Tryz.prog 10 #[] w fun e w' => ∃ N : Nat, e = .returned (.slice (some ⟨N, 0, none⟩) 5 5) ∧ w.heap.size ≤ N ∧ w'.cell? ⟨N, 1, none⟩ = some (.string (wordB 1)) ∧ w'.cell? ⟨N, 2, none⟩ = some (.string (wordB 2)) ∧ w'.cell? ⟨N, 3, none⟩ = some (.string (wordB 3)) ∧ w'.cell? ⟨N, 4, none⟩ = some (.string (wordB 4)) ∧ Below w.heap.size w w' := by
  go_enter Tryz.func10, Tryz.ntmps10
  go_wp2
  go_ret
  exact ⟨w.heap.size, rfl, Nat.le_refl _, by simp [go_sem]; rfl, by simp [go_sem]; rfl, by simp [go_sem]; rfl, by simp [go_sem]; rfl, by (repeat (first | (with_reducible exact Below.refl _ _) | (with_reducible refine below_setCell ?_ (by first | (simp; done) | (simp; omega) | omega)) | (with_reducible refine below_alloc _ ?_) | (with_reducible refine below_drewN ?_ _) | (with_reducible assumption) | (with_reducible refine below_after (by assumption) ?_)))⟩

end Go.Proofs.YtpiheobpobclgaaGreatDoor
