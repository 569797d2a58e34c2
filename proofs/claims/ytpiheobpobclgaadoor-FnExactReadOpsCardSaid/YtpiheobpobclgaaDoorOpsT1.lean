/- The text of operations. Printed by mkopst.py. -/
import Derived.Test.YtpiheobpobclgaaDoorRecT1
import Derived.Test.YtpiheobpobclgaaDoorGoodOps
import Derived.Test.YtpiheobpobclgaaDoorShelf
import Derived.Test.YtpiheobpobclgaaDoorKit
import Derived.Test.YtpiheobpobclgaaDoorGoodr
namespace Go.Proofs.YtpiheobpobclgaaDoor
open Go.RowKit

theorem made0O {w0 : World} {e : TypeId} {size H base : Nat} (hH : w0.heap.size = H) (hb : base ≤ H) : (w0.alloc (.cells #[] e)).ownsRow base e size (.slice (some ⟨H, 0, none⟩) 0 0) 0 [] := by
  subst hH
  exact World.ownsRow_made _ _ _ hb (Nat.zero_le _) (by simp)
def wordO (K : Int) : ByteArray := if K = 1 then ⟨#[114, 101, 97, 100]⟩ else if K = 2 then ⟨#[112, 117, 116]⟩ else if K = 3 then ⟨#[100, 114, 111, 112]⟩ else if K = 4 then ⟨#[97, 100, 100]⟩ else if K = 5 then ⟨#[110, 101, 101, 100]⟩ else if K = 6 then ⟨#[108, 97, 99, 107]⟩ else ⟨#[105, 115]⟩
theorem wordO_size (K : Int) : (wordO K).size ≤ 4 := by unfold wordO; repeat (first | (split; decide) | decide)
/-- A number's text, of either sign. -/
def intT (n : Int) : ByteArray := ⟨(Lib.itoa n).toArray⟩
theorem intT_le {n : Int} (h0 : -1000000 ≤ n) (h1 : n ≤ 1000000) : (intT n).size ≤ 21 := by
  have := Lib.itoa_length_le n (by omega) (by omega)
  unfold intT
  simpa [ByteArray.size] using this
theorem intT_pos (n : Nat) : intT (n : Int) = numT n := by unfold intT numT; rw [Lib.itoa_nonneg]
theorem intT_neg (n : Nat) (h : 1 ≤ n) : intT (-(n : Int)) = ⟨#[45]⟩ ++ numT n := by
  unfold intT numT
  rw [Lib.itoa_neg n h]
  apply ByteArray.ext
  rw [ByteArray.data_append]
  simp
theorem itoaI_any (n : Int) (h0 : -1000000 ≤ n) (h1 : n ≤ 1000000) (w : World) (hT : TabW w) : Calls Tryd.prog 56 #[.int .i64 n] w fun e w' => e = .returned (.string (intT n)) ∧ Below w.heap.size w w' := itoa_any n (by omega) (by omega) w hT

set_option maxRecDepth 100000 in
/-- spec.l5Text -/
theorem l5Text_any (n : Int) (h0 : -1000000 ≤ n) (h1 : n ≤ 1000000) (w : World) : Calls Tryd.prog 52 #[.int .i64 n] w fun e w' => e = .returned (.string (intT n)) ∧ Below w.heap.size w w' := by
  by_cases hn : n < 0
  · obtain ⟨m, hm⟩ : ∃ m : Nat, n = -(m : Int) := ⟨n.natAbs, by omega⟩
    have hs := numT_le (n := m) (by omega)
    have H := Lib.hid (fun W => l1Num_any m (by omega) W)
    have hneg : -(n : Int) = (m : Int) := by omega
    have hI : (m : Int) ≤ 1000000 := by omega
    have hp : 0 < (m : Int) := by omega
    subst hm
    rw [intT_neg m (by omega)]
    rw [Int.neg_neg] at hneg
    clear hneg
    generalize numT m = t at *
    have y1 : (⟨#[45]⟩ : ByteArray).size = 1 := rfl
    have ha := fun W => run_string_add_sum (P := Tryd.prog) (w := W) ⟨#[45]⟩ t (by omega)
    have hnn : - -(m : Int) = (m : Int) := Int.neg_neg _
    clear hs y1
    go_enter Tryd.func52, Tryd.ntmps52
    go_wp2_with fail
    refine (H.out _).mono ?_
    rintro e w1 ⟨rfl, k1⟩
    go_wp2
    go_ret
    exact ⟨rfl, by (repeat (first | (with_reducible exact Below.refl _ _) | (with_reducible refine below_setCell ?_ (by first | (simp; done) | (simp; omega) | omega)) | (with_reducible refine below_alloc _ ?_) | (with_reducible refine below_drewN ?_ _) | (with_reducible assumption) | (with_reducible refine below_after (by assumption) ?_)))⟩
  · obtain ⟨m, rfl⟩ := Int.eq_ofNat_of_zero_le (show 0 ≤ n by omega)
    have H := Lib.hid (fun W => l1Num_any m (by omega) W)
    rw [intT_pos]
    generalize numT m = t at *
    have hn2 : 0 ≤ (m : Int) := by omega
    go_enter Tryd.func52, Tryd.ntmps52
    go_wp2_with fail
    refine (H.out _).mono ?_
    rintro e w1 ⟨rfl, k1⟩
    go_wp2
    go_ret
    exact ⟨rfl, by (repeat (first | (with_reducible exact Below.refl _ _) | (with_reducible refine below_setCell ?_ (by first | (simp; done) | (simp; omega) | omega)) | (with_reducible refine below_alloc _ ?_) | (with_reducible refine below_drewN ?_ _) | (with_reducible assumption) | (with_reducible refine below_after (by assumption) ?_)))⟩

def headO (x : OpD) : ByteArray := (wordO x.Kind ++ ⟨#[32]⟩) ++ x.Key
def opT (x : OpD) : ByteArray := if x.Kind = 2 ∨ x.Kind = 7 then headO x ++ (⟨#[32]⟩ ++ x.Val) else if x.Kind = 4 ∨ x.Kind = 5 then headO x ++ (⟨#[32]⟩ ++ intT x.By) else headO x
theorem opT_V {x : OpD} (h : x.Kind = 2 ∨ x.Kind = 7) : opT x = headO x ++ (⟨#[32]⟩ ++ x.Val) := if_pos h
theorem opT_B {x : OpD} (h : x.Kind = 4 ∨ x.Kind = 5) : opT x = headO x ++ (⟨#[32]⟩ ++ intT x.By) := by unfold opT; rw [if_neg (by omega), if_pos h]
theorem opT_P {x : OpD} (h : x.Kind = 1 ∨ x.Kind = 3 ∨ x.Kind = 6) : opT x = headO x := by unfold opT; rw [if_neg (by omega), if_neg (by omega)]
def opsS : List OpD → ByteArray
  | [] => ⟨#[]⟩
  | x :: r => r.foldl (fun s y => (s ++ ⟨#[59, 32]⟩) ++ opT y) (opT x)
theorem opsS_one (x : OpD) : opsS [x] = opT x := rfl
theorem opsS_snoc {l : List OpD} (h : l ≠ []) (x : OpD) : opsS (l ++ [x]) = (opsS l ++ ⟨#[59, 32]⟩) ++ opT x := by
  cases l with
  | nil => exact absurd rfl h
  | cons y r => simp [opsS, List.foldl_append]
theorem fold_join (r : List OpD) : ∀ s : ByteArray, (r.foldl (fun s y => (s ++ ⟨#[59, 32]⟩) ++ opT y) s).data.toList = s.data.toList ++ Lib.joinTail [59, 32] ((r.map opT).map (·.data.toList)) := by
  induction r with
  | nil => intro s; simp [Lib.joinTail]
  | cons y r ih => intro s; simp [ih, Lib.joinTail, ByteArray.data_append]
theorem join_opsS (l : List OpD) : (⟨(Lib.join ((l.map opT).map (·.data.toList)) [59, 32]).toArray⟩ : ByteArray) = opsS l := by
  cases l with
  | nil => rfl
  | cons x r =>
    apply ByteArray.ext
    show (Lib.join (_ :: _) _).toArray = (opsS (x :: r)).data
    rw [Lib.join_cons]
    have := fold_join r (opT x)
    apply Array.toList_inj.1
    rw [show (opsS (x :: r)).data.toList = _ from this]
theorem opT_size {x : OpD} (hb : -1000000 ≤ x.By) (hb2 : x.By ≤ 1000000) : (opT x).size ≤ x.Key.size + x.Val.size + 40 := by
  have h1 := wordO_size x.Kind
  have h2 := intT_le hb hb2
  have y1 : (⟨#[32]⟩ : ByteArray).size = 1 := rfl
  unfold opT headO
  split
  · simp only [ByteArray.size_append]; omega
  · split <;> (simp only [ByteArray.size_append]; omega)
theorem opsS_size (l : List OpD) (h : ∀ x ∈ l, (opT x).size ≤ 1100000) : (opsS l).size ≤ l.length * 1100002 := by
  cases l with
  | nil => exact Nat.zero_le _
  | cons x r =>
    have key : ∀ (r : List OpD) (s : ByteArray), (∀ y ∈ r, (opT y).size ≤ 1100000) → (r.foldl (fun s y => (s ++ ⟨#[59, 32]⟩) ++ opT y) s).size ≤ s.size + r.length * 1100002 := by
      intro r
      induction r with
      | nil => intro s _; simp
      | cons y r ih =>
        intro s hr
        have h1 := ih ((s ++ ⟨#[59, 32]⟩) ++ opT y) fun z hz => hr z (List.mem_cons_of_mem _ hz)
        have h2 := hr y (List.mem_cons_self ..)
        have y1 : (⟨#[59, 32]⟩ : ByteArray).size = 2 := rfl
        simp only [List.foldl_cons, List.length_cons, ByteArray.size_append] at h1 ⊢
        omega
    have h1 := key r (opT x) fun y hy => h y (List.mem_cons_of_mem _ hy)
    have h2 := h x (List.mem_cons_self ..)
    show (List.foldl (fun (s : ByteArray) y => (s ++ ⟨#[59, 32]⟩) ++ opT y) (opT x) r).size ≤ _
    simp only [List.length_cons]
    omega
/-- A good operation's parts. -/
theorem opB_parts {x : OpD} (h : opB x = true) : (x.Kind = 1 ∨ x.Kind = 2 ∨ x.Kind = 3 ∨ x.Kind = 4 ∨ x.Kind = 5 ∨ x.Kind = 6 ∨ x.Kind = 7) ∧ -9999 ≤ x.By ∧ x.By ≤ 9999 := by
  obtain ⟨K, key, val, b⟩ := x
  rcases kinds K with k | k | k | k
  · rw [opB_V k] at h
    simp only [Bool.and_eq_true, decide_eq_true_eq] at h
    exact ⟨by dsimp only; omega, by dsimp only; omega, by dsimp only; omega⟩
  · rw [opB_B k] at h
    simp only [Bool.and_eq_true, inB_iff] at h
    exact ⟨by dsimp only; omega, h.2.2.1, h.2.2.2⟩
  · rw [opB_P k] at h
    simp only [Bool.and_eq_true, decide_eq_true_eq] at h
    exact ⟨by dsimp only; omega, by dsimp only; omega, by dsimp only; omega⟩
  · rw [opB_no k] at h
    cases h
theorem goodOB_parts {l : List OpD} (h : goodOB l = true) : l.length ≤ 8 ∧ ∀ x ∈ l, opB x = true := by
  unfold goodOB at h
  simp only [Bool.and_eq_true, decide_eq_true_eq, Bool.not_eq_true', List.any_eq_false] at h
  refine ⟨h.1, fun x hx => ?_⟩
  have := h.2 x hx
  unfold badOp at this
  simpa using this
theorem costOp_get {l : List OpD} (h : costOpS l ≤ 1048576) {x : OpD} (hx : x ∈ l) : x.Key.size + x.Val.size ≤ 1048576 := by
  obtain ⟨k, hk, rfl⟩ := List.mem_iff_getElem.1 hx
  have h1 := sumC_get costOp l k hk
  have h3 : costOp l[k] = l[k].Key.size + l[k].Val.size := rfl
  unfold costOpS at h
  omega

set_option maxRecDepth 100000 in
/-- impl.opWords -/
theorem opWords_any (w : World) : Calls Tryd.prog 46 #[] w fun e w' => ∃ N : Nat, e = .returned (.slice (some ⟨N, 0, none⟩) 8 8) ∧ w.heap.size ≤ N ∧ w'.cell? ⟨N, 1, none⟩ = some (.string (wordO 1)) ∧ w'.cell? ⟨N, 2, none⟩ = some (.string (wordO 2)) ∧ w'.cell? ⟨N, 3, none⟩ = some (.string (wordO 3)) ∧ w'.cell? ⟨N, 4, none⟩ = some (.string (wordO 4)) ∧ w'.cell? ⟨N, 5, none⟩ = some (.string (wordO 5)) ∧ w'.cell? ⟨N, 6, none⟩ = some (.string (wordO 6)) ∧ w'.cell? ⟨N, 7, none⟩ = some (.string (wordO 7)) ∧ Below w.heap.size w w' := by
  go_enter Tryd.func46, Tryd.ntmps46
  go_wp2
  go_ret
  exact ⟨w.heap.size, rfl, Nat.le_refl _, by simp [go_sem]; rfl, by simp [go_sem]; rfl, by simp [go_sem]; rfl, by simp [go_sem]; rfl, by simp [go_sem]; rfl, by simp [go_sem]; rfl, by simp [go_sem]; rfl, by (repeat (first | (with_reducible exact Below.refl _ _) | (with_reducible refine below_setCell ?_ (by first | (simp; done) | (simp; omega) | omega)) | (with_reducible refine below_alloc _ ?_) | (with_reducible refine below_drewN ?_ _) | (with_reducible assumption) | (with_reducible refine below_after (by assumption) ?_)))⟩

set_option maxRecDepth 100000 in
/-- spec.l5Words -/
theorem l5Words_any (w : World) : Calls Tryd.prog 51 #[] w fun e w' => ∃ N : Nat, e = .returned (.slice (some ⟨N, 0, none⟩) 8 8) ∧ w.heap.size ≤ N ∧ w'.cell? ⟨N, 1, none⟩ = some (.string (wordO 1)) ∧ w'.cell? ⟨N, 2, none⟩ = some (.string (wordO 2)) ∧ w'.cell? ⟨N, 3, none⟩ = some (.string (wordO 3)) ∧ w'.cell? ⟨N, 4, none⟩ = some (.string (wordO 4)) ∧ w'.cell? ⟨N, 5, none⟩ = some (.string (wordO 5)) ∧ w'.cell? ⟨N, 6, none⟩ = some (.string (wordO 6)) ∧ w'.cell? ⟨N, 7, none⟩ = some (.string (wordO 7)) ∧ Below w.heap.size w w' := by
  go_enter Tryd.func51, Tryd.ntmps51
  go_wp2
  go_ret
  exact ⟨w.heap.size, rfl, Nat.le_refl _, by simp [go_sem]; rfl, by simp [go_sem]; rfl, by simp [go_sem]; rfl, by simp [go_sem]; rfl, by simp [go_sem]; rfl, by simp [go_sem]; rfl, by simp [go_sem]; rfl, by (repeat (first | (with_reducible exact Below.refl _ _) | (with_reducible refine below_setCell ?_ (by first | (simp; done) | (simp; omega) | omega)) | (with_reducible refine below_alloc _ ?_) | (with_reducible refine below_drewN ?_ _) | (with_reducible assumption) | (with_reducible refine below_after (by assumption) ?_)))⟩

end Go.Proofs.YtpiheobpobclgaaDoor
