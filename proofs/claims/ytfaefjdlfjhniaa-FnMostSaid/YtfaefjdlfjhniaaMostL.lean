/- FnMost: the groups that it passes through. -/
import Derived.Test.YtfaefjdlfjhniaaRunb
namespace Go.Proofs.Ytfaefjdlfjhniaa
open Go.RowKit

/-- n replicas, each by its number -/
def grpN (n : Nat) (F : Nat → ReplicaD) : List ReplicaD := (List.range n).map F
theorem grpN_len (n : Nat) (F : Nat → ReplicaD) : (grpN n F).length = n := by simp [grpN]
theorem grpN_get {n k : Nat} (F : Nat → ReplicaD) (h : k < (grpN n F).length) : (grpN n F)[k] = F k := by simp [grpN]
theorem grpN_congr {n : Nat} {F G : Nat → ReplicaD} (h : ∀ i, i < n → F i = G i) : grpN n F = grpN n G :=
  List.map_congr_left fun i hi => h i (List.mem_range.1 hi)
theorem grpN_set {n k : Nat} {F G : Nat → ReplicaD} {a : ReplicaD} (h1 : a = G k) (h2 : ∀ i, i < n → i ≠ k → F i = G i) : (grpN n F).set k a = grpN n G := by
  apply List.ext_getElem
  · simp [grpN]
  · intro i hi hj
    rw [List.getElem_set, grpN_get]
    have hin : i < n := by simpa [grpN] using hj
    split
    · rename_i e; subst e; rw [grpN_get]; exact h1
    · rename_i e; rw [grpN_get]; exact h2 i hin (fun h => e h.symm)
theorem grpN_rep (n : Nat) (a : ReplicaD) : List.replicate n a = grpN n fun _ => a := by
  apply List.ext_getElem
  · simp [grpN]
  · intro i hi hj; simp [grpN]
theorem grpN_count {n : Nat} {F : Nat → ReplicaD} {p : ReplicaD → Bool} {d : Nat} (h : ∀ i, i < n → p (F i) = decide (d ≤ i)) : (grpN n F).countP p = n - d := by
  have : ∀ m, m ≤ n → ((List.range m).map F).countP p = m - d := by
    intro m
    induction m with
    | zero => intro _; simp
    | succ m ih =>
      intro hm
      rw [List.range_succ, List.map_append, List.countP_append, ih (by omega), List.map_singleton, List.countP_singleton, h m (by omega)]
      by_cases e : d ≤ m
      · rw [decide_eq_true e, if_pos rfl]; omega
      · rw [decide_eq_false e, if_neg (by decide)]; omega
  exact this n (Nat.le_refl _)

/-- all empty, the first k down -/
def downG (n k : Nat) : List ReplicaD := grpN n fun i => ⟨decide (k ≤ i), [], 0⟩
theorem downG_zero (n : Nat) : List.replicate n (⟨true, [], 0⟩ : ReplicaD) = downG n 0 := by
  rw [grpN_rep]; exact grpN_congr fun i _ => by simp
theorem downG_up {n k r : Nat} (hr : r < n) : upIs (downG n k) (r : Int) true = decide (k ≤ r) := by
  unfold downG
  rw [upIs_nat (by rw [grpN_len]; exact hr), grpN_get]
  show (decide (k ≤ r) == true) = _
  simp
theorem downG_crash {n k : Nat} (hk : k < n) : crashL (downG n k) (k : Int) = downG n (k + 1) := by
  unfold downG
  rw [crashL_nat (by rw [grpN_len]; exact hk), grpN_get]
  refine grpN_set ?_ ?_
  · simp
  · intro i _ hne
    have : (k ≤ i) ↔ (k + 1 ≤ i) := by omega
    simp only [this]
theorem downG_run {n : Nat} (hn : n = 3 ∨ n = 5) : ∀ k, k ≤ n → Run ⟨downG n k, 0, -1⟩ []
  | 0, _ => by rw [← downG_zero]; exact Run.start hn
  | k + 1, h => by
    have h1 := (downG_run hn k (by omega)).crash (r := (k : Int)) (by rw [downG_up (by omega)]; simp)
    rw [downG_crash (by omega), crashD_ne (by omega)] at h1
    exact h1
theorem downG_elect {n d r : Nat} (hn : n = 3 ∨ n = 5) (hd : d ≤ n) (hr : r < n) : electB (downG n d) 0 (-1) (r : Int) = (decide (n < 2 * (n - d)) && decide (d ≤ r)) := by
  unfold electB
  rw [(downG_run hn d hd).good, downG_up hr]
  have e : winsB (downG n d) (r : Int) = decide (n < 2 * (n - d)) := by
    unfold downG
    rw [winsB_nat (by rw [grpN_len]; exact hr), grpN_get, grpN_len, grpN_count (d := d)]
    intro i _
    unfold voteB
    rw [newer_self]
    simp
  rw [e, Bool.and_comm (decide (n < 2 * (n - d)))]
  simp

/-- the leader d has L, and those behind it up to k too; s of it is sure -/
def leadG (n d : Nat) (L : List EntryD) (k s : Nat) : List ReplicaD := grpN n fun i => ⟨decide (d ≤ i), if i = d ∨ d < i ∧ i < k then L else [], if i = d then (s : Int) else 0⟩
theorem leadG_len (n d : Nat) (L : List EntryD) (k s : Nat) : (leadG n d L k s).length = n := grpN_len _ _
theorem leadG_get {n d : Nat} {L : List EntryD} {k s i : Nat} (h : i < (leadG n d L k s).length) : (leadG n d L k s)[i] = ⟨decide (d ≤ i), if i = d ∨ d < i ∧ i < k then L else [], if i = d then (s : Int) else 0⟩ := grpN_get _ h
theorem leadG_zero (n d : Nat) : downG n d = leadG n d [] 0 0 := grpN_congr fun i _ => by simp
theorem leadG_put {n d : Nat} (hd : d < n) (L : List EntryD) (r : RecD) : putL (leadG n d L 0 0) 1 (d : Int) r = leadG n d (L ++ [⟨1, r⟩]) 0 0 := by
  unfold leadG
  rw [putL_nat (by rw [grpN_len]; exact hd), grpN_get]
  refine grpN_set ?_ ?_
  · simp
  · intro i _ hne; simp [hne]
theorem leadG_putOk {n d : Nat} (hd : d < n) {L : List EntryD} (h : L.length < 60) (k s : Nat) : putOk (leadG n d L k s) (d : Int) = true := by
  unfold leadG
  rw [putOk_nat (by rw [grpN_len]; exact hd), grpN_get]
  simp [h]
theorem leadG_up {n d r : Nat} (hr : r < n) (L : List EntryD) (k s : Nat) : upIs (leadG n d L k s) (r : Int) true = decide (d ≤ r) := by
  unfold leadG
  rw [upIs_nat (by rw [grpN_len]; exact hr), grpN_get]
  show (decide (d ≤ r) == true) = _
  simp
theorem leadG_copyB {n d r : Nat} (hr : r < n) {L : List EntryD} {k s : Nat} {C : List EntryD} (R : Run ⟨leadG n d L k s, 1, (d : Int)⟩ C) : copyB (leadG n d L k s) 1 (d : Int) (r : Int) = decide (d < r) := by
  unfold copyB
  rw [R.good, leadG_up hr, show decide ((d : Int) < 0) = false from decide_eq_false (by omega)]
  by_cases h : d < r
  · rw [decide_eq_true h, decide_eq_true (Nat.le_of_lt h), show (((d : Int) == (r : Int)) = false) from by simp; omega]; rfl
  · rw [decide_eq_false h]
    by_cases e : d ≤ r
    · have : d = r := by omega
      subst this
      simp
    · rw [decide_eq_false e]; simp
theorem leadG_copy {n d r : Nat} (hr : r < n) (hd : d < r) (L : List EntryD) : copyL (leadG n d L r 0) (d : Int) (r : Int) = leadG n d L (r + 1) 0 := by
  unfold leadG
  rw [copyL_nat (by rw [grpN_len]; omega) (by rw [grpN_len]; exact hr), grpN_get, grpN_get]
  refine grpN_set ?_ ?_
  · have h1 : r ≠ d := by omega
    have h2 : d ≤ r := by omega
    simp [h1, h2, hd]
    omega
  · intro i _ hne
    have : i < r + 1 ↔ i < r := by omega
    simp only [this]
theorem leadG_skip {n d r : Nat} (hd : ¬ d < r) (L : List EntryD) (s : Nat) : leadG n d L r s = leadG n d L (r + 1) s :=
  grpN_congr fun i _ => by
    have : (i = d ∨ d < i ∧ i < r) ↔ (i = d ∨ d < i ∧ i < r + 1) := by omega
    simp only [this]
theorem begB_nil {m : Nat} (L : List EntryD) (h : 0 < m) : begB [] L m = false := by
  unfold begB
  exact pB_false (fun ⟨h1, _⟩ => by simp at h1; omega)
theorem begB_full (L : List EntryD) : begB L L L.length = true := pB_true ⟨Nat.le_refl _, Nat.le_refl _, rfl⟩
theorem leadG_adv {n d : Nat} (hd : d < n) (hm : n < 2 * (n - d)) {L : List EntryD} (hL : ∀ e ∈ L, e.Term = 1) : advL (leadG n d L n 0) 1 (d : Int) = leadG n d L n L.length := by
  have hdn : d < (leadG n d L n 0).length := by rw [leadG_len]; exact hd
  rw [advL_nat 1 hdn]
  have hget : (leadG n d L n 0)[d] = (⟨true, L, 0⟩ : ReplicaD) := by rw [leadG_get]; simp
  rw [hget]
  have e : advN (advF (leadG n d L n 0) 1 L) (0 : Int).toNat L.length = L.length := by
    rcases Nat.eq_zero_or_pos L.length with h0 | h0
    · rw [h0]; rfl
    · obtain ⟨m, hm1⟩ : ∃ m, L.length = m + 1 := ⟨L.length - 1, by omega⟩
      rw [hm1]
      refine advN_yes (by simp) ?_
      rw [advF_at _ _ _ (by omega), show ((L[m]'(by omega)).Term == 1) = true from by simpa using hL _ (List.getElem_mem _), leadG_len]
      have : (leadG n d L n 0).countP (fun x => begB x.Log L (m + 1)) = n - d := by
        unfold leadG
        refine grpN_count fun i hi => ?_
        by_cases h : d ≤ i
        · have h1 : i = d ∨ d < i ∧ i < n := by omega
          simp only [if_pos h1, decide_eq_true h]
          rw [← hm1]; exact begB_full L
        · have h1 : ¬ (i = d ∨ d < i ∧ i < n) := by omega
          simp only [if_neg h1, decide_eq_false h]
          exact begB_nil L (by omega)
      rw [this, decide_eq_true hm]
      rfl
  show List.set _ _ (⟨true, L, ((advN (advF (leadG n d L n 0) 1 L) (0 : Int).toNat L.length : Nat) : Int)⟩ : ReplicaD) = _
  rw [e]
  unfold leadG
  refine grpN_set ?_ ?_
  · simp
  · intro i _ hne; simp [hne]
theorem leadG_sure {n d : Nat} (hd : d < n) (L : List EntryD) : sureL (leadG n d L n L.length) (d : Int) = L := by
  unfold sureL
  rw [Int.toNat_natCast, List.getElem?_eq_getElem (by rw [leadG_len]; exact hd)]
  have hget : (leadG n d L n L.length)[d]'(by rw [leadG_len]; exact hd) = (⟨true, L, (L.length : Int)⟩ : ReplicaD) := by rw [leadG_get]; simp
  rw [hget]
  simp

end Go.Proofs.Ytfaefjdlfjhniaa
