/- Versions put into cells. Plain law; no program. -/
import Derived.Test.YtkcidneefdaaiaaLastT
import Derived.Test.YtkcidneefdaaiaaPutWL
namespace Go.Proofs.Ytkcidneefdaaiaa
open Go.RowKit

/-- Rising keys, and a version everywhere. -/
structure WeakC (l : List CellD) : Prop where
  rise : SortedK l
  some : ∀ k (h : k < l.length), 1 ≤ l[k].Vers.length

def newV (t : Int) (x : WriteD) : VerD := ⟨t, x.Val, x.Gone⟩
/-- A version put into cells. -/
def putC (t : Int) (x : WriteD) : List CellD → List CellD
  | [] => [⟨x.Key, [newV t x]⟩]
  | y :: r => if ltB x.Key y.Key = true then ⟨x.Key, [newV t x]⟩ :: y :: r else if ltB y.Key x.Key = true then y :: putC t x r else ⟨y.Key, y.Vers ++ [newV t x]⟩ :: r

theorem putC_mid {t : Int} {x : WriteD} : ∀ (a b : List CellD), (∀ y ∈ a, ltB y.Key x.Key = true) → (∀ y ∈ b, ltB x.Key y.Key = true) → putC t x (a ++ b) = a ++ ⟨x.Key, [newV t x]⟩ :: b
  | [], [], _, _ => rfl
  | [], y :: b, _, h => if_pos (h y (List.mem_cons_self ..))
  | y :: a, b, h, k => by
    have h1 := h y (List.mem_cons_self ..)
    have h2 : ¬ ltB x.Key y.Key = true := fun e => by have := ltB_trans h1 e; rw [ltB_irrefl] at this; cases this
    show (if _ then _ else if _ then y :: putC t x (a ++ b) else _) = _
    rw [if_neg h2, if_pos h1, putC_mid a b (fun z hz => h z (List.mem_cons_of_mem _ hz)) k]
    rfl
theorem putC_at {t : Int} {x : WriteD} {y : CellD} (he : y.Key = x.Key) : ∀ (a b : List CellD), (∀ z ∈ a, ltB z.Key x.Key = true) → putC t x (a ++ y :: b) = a ++ ⟨y.Key, y.Vers ++ [newV t x]⟩ :: b
  | [], b, _ => by
    show (if _ then _ else _) = _
    rw [he, ltB_irrefl, if_neg (by simp), if_neg (by simp)]
    rfl
  | z :: a, b, h => by
    have h1 := h z (List.mem_cons_self ..)
    have h2 : ¬ ltB x.Key z.Key = true := fun e => by have := ltB_trans h1 e; rw [ltB_irrefl] at this; cases this
    show (if _ then _ else if _ then z :: putC t x (a ++ y :: b) else _) = _
    rw [if_neg h2, if_pos h1, putC_at he a b (fun w hw => h w (List.mem_cons_of_mem _ hw))]
    rfl
theorem putC_found {t : Int} {x : WriteD} {l : List CellD} {i : Nat} (hi : i < l.length) (he : l[i].Key = x.Key) (hlt : ∀ j (h : j < l.length), j < i → ltB l[j].Key x.Key = true) : putC t x l = l.set i ⟨l[i].Key, l[i].Vers ++ [newV t x]⟩ := by
  have e : l = l.take i ++ l[i] :: l.drop (i + 1) := by
    rw [List.getElem_cons_drop hi, List.take_append_drop]
  have h1 := putC_at (t := t) he (l.take i) (l.drop (i + 1)) (fun z hz => by
    obtain ⟨j, hj, rfl⟩ := List.getElem_of_mem hz
    rw [List.length_take] at hj
    rw [List.getElem_take]
    exact hlt j (by omega) (by omega))
  rw [← e] at h1
  rw [h1, List.set_eq_take_append_cons_drop, if_pos hi]
theorem putC_none {t : Int} {x : WriteD} {l : List CellD} (hs : SortedK l) {i : Nat} (hlt : ∀ j (h : j < l.length), j < i → ltB l[j].Key x.Key = true) (hge : ∀ j (h : j < l.length), i ≤ j → ltB l[j].Key x.Key = false) (hne : ¬ ∃ h : i < l.length, l[i].Key = x.Key) :
    putC t x l = l.take i ++ ⟨x.Key, [newV t x]⟩ :: l.drop i := by
  have h1 := putC_mid (t := t) (x := x) (l.take i) (l.drop i) (fun z hz => by
    obtain ⟨j, hj, rfl⟩ := List.getElem_of_mem hz
    rw [List.length_take] at hj
    rw [List.getElem_take]
    exact hlt j (by omega) (by omega)) (fun z hz => by
    obtain ⟨j, hj, rfl⟩ := List.getElem_of_mem hz
    rw [List.length_drop] at hj
    rw [List.getElem_drop]
    have hit : i + j < l.length := by omega
    have h2 := hge (i + j) hit (by omega)
    refine lt_total h2 fun e => ?_
    cases j with
    | zero => exact hne ⟨by omega, e.symm⟩
    | succ j =>
      have h3 := hs i (i + (j + 1)) (by omega) hit
      rw [← e, hge i (by omega) (Nat.le_refl _)] at h3
      cases h3)
  rw [List.take_append_drop] at h1
  exact h1

/-- Rising keys as a pairwise fact. -/
def RiseC (l : List CellD) : Prop := l.Pairwise fun a b => ltB a.Key b.Key = true
theorem riseC_iff {l : List CellD} : RiseC l ↔ SortedK l := by
  unfold RiseC
  rw [List.pairwise_iff_getElem]
  exact ⟨fun h a b hab hb => h a b (by omega) hb hab, fun h i j hi hj hij => h i j hij hj⟩
theorem putC_key {t : Int} {x : WriteD} : ∀ (l : List CellD) (y : CellD), y ∈ putC t x l → (y.Key = x.Key ∨ ∃ z ∈ l, z.Key = y.Key) ∧ (1 ≤ y.Vers.length ∨ y ∈ l)
  | [], y, h => by
    have h : y ∈ [(⟨x.Key, [newV t x]⟩ : CellD)] := h
    rw [List.mem_singleton] at h
    subst h
    exact ⟨Or.inl rfl, Or.inl (Nat.le_refl _)⟩
  | z :: r, y, h => by
    unfold putC at h
    split at h
    · rcases List.mem_cons.1 h with rfl | h
      · exact ⟨Or.inl rfl, Or.inl (Nat.le_refl _)⟩
      · exact ⟨Or.inr ⟨y, h, rfl⟩, Or.inr h⟩
    · split at h
      · rcases List.mem_cons.1 h with rfl | h
        · exact ⟨Or.inr ⟨y, List.mem_cons_self .., rfl⟩, Or.inr (List.mem_cons_self ..)⟩
        · obtain ⟨h1, h2⟩ := putC_key r y h
          refine ⟨h1.imp id fun ⟨z', hz, e⟩ => ⟨z', List.mem_cons_of_mem _ hz, e⟩, h2.imp id fun h => List.mem_cons_of_mem _ h⟩
      · rcases List.mem_cons.1 h with rfl | h
        · exact ⟨Or.inr ⟨z, List.mem_cons_self .., rfl⟩, Or.inl (by simp)⟩
        · exact ⟨Or.inr ⟨y, List.mem_cons_of_mem _ h, rfl⟩, Or.inr (List.mem_cons_of_mem _ h)⟩
theorem putC_rise {t : Int} {x : WriteD} : ∀ {l : List CellD}, RiseC l → RiseC (putC t x l)
  | [], _ => List.pairwise_singleton _ _
  | y :: r, h => by
    have h0 := h
    unfold RiseC at h
    rw [List.pairwise_cons] at h
    unfold putC
    split
    · rename_i hlt
      exact List.pairwise_cons.2 ⟨fun z hz => by
        rcases List.mem_cons.1 hz with rfl | hz
        · exact hlt
        · exact ltB_trans hlt (h.1 z hz), h0⟩
    · split
      · rename_i hgt
        exact List.pairwise_cons.2 ⟨fun z hz => by
          rcases (putC_key r z hz).1 with e | ⟨z', hz', e⟩
          · rw [e]; exact hgt
          · rw [← e]; exact h.1 z' hz', putC_rise h.2⟩
      · exact List.pairwise_cons.2 ⟨fun z hz => h.1 z hz, h.2⟩
theorem putC_weak {t : Int} {x : WriteD} {l : List CellD} (h : WeakC l) : WeakC (putC t x l) := by
  refine ⟨riseC_iff.1 (putC_rise (riseC_iff.2 h.rise)), fun k hk => ?_⟩
  rcases (putC_key l _ (List.getElem_mem hk)).2 with h1 | h1
  · exact h1
  · obtain ⟨j, hj, e⟩ := List.getElem_of_mem h1
    rw [← e]
    exact h.some j hj
theorem putC_cost {t : Int} {x : WriteD} : ∀ l : List CellD, costCellS (putC t x l) ≤ costCellS l + 2 + costWrite x
  | [] => by
    have e : putC t x [] = [⟨x.Key, [newV t x]⟩] := rfl
    rw [e]
    simp [costCellS, sumC, costCell, costVerS, costVer, newV, costWrite]
    omega
  | y :: r => by
    have ih := putC_cost (t := t) (x := x) r
    unfold putC
    split
    · simp [costCellS, sumC, costCell, costVerS, costVer, newV, costWrite] at *; omega
    · split
      · simp [costCellS, sumC, costCell, costVerS, costVer, newV, costWrite] at *; omega
      · simp [costCellS, sumC, costCell, costVerS, costVer, newV, costWrite] at *; omega

/-- One step: none where the version is not later. -/
noncomputable def stepC (t : Int) (l : List CellD) (x : WriteD) : Option (List CellD) := if lastT l x.Key < t then some (putC t x l) else none
noncomputable def foldC (t : Int) (l : List CellD) (ws : List WriteD) : Option (List CellD) := ws.foldl (fun o x => o.bind fun m => stepC t m x) (some l)
theorem fold_none (t : Int) : ∀ ws : List WriteD, ws.foldl (fun o x => o.bind fun m => stepC t m x) (none : Option (List CellD)) = none
  | [] => rfl
  | _ :: r => fold_none t r
theorem foldC_next {t : Int} {l : List CellD} {ws : List WriteD} {k : Nat} (h : k < ws.length) {m : List CellD} (hm : foldC t l (ws.take k) = some m) : foldC t l (ws.take (k + 1)) = stepC t m ws[k] := by
  unfold foldC at *
  rw [List.take_succ_eq_append_getElem h, List.foldl_append, hm]
  rfl
theorem foldC_stop {t : Int} {l : List CellD} {ws : List WriteD} {k : Nat} (hm : foldC t l (ws.take k) = none) : foldC t l ws = none := by
  unfold foldC at *
  conv => lhs; rw [← List.take_append_drop k ws, List.foldl_append, hm]
  exact fold_none t _
theorem foldC_weak {t : Int} : ∀ (ws : List WriteD) (l m : List CellD), WeakC l → foldC t l ws = some m → WeakC m ∧ costCellS m ≤ costCellS l + ws.length * 2 + sumC costWrite ws
  | [], l, m, h, hm => by
    have : some l = some m := hm
    injection this with this
    subst this
    exact ⟨h, by simp [sumC]⟩
  | x :: r, l, m, h, hm => by
    have e : r.foldl (fun o x => o.bind fun m => stepC t m x) (stepC t l x) = some m := hm
    cases hs : stepC t l x with
    | none =>
      rw [hs, fold_none] at e
      cases e
    | some m1 =>
      rw [hs] at e
      have hm1 : m1 = putC t x l := by
        unfold stepC at hs
        split at hs
        · injection hs with hs
          exact hs.symm
        · cases hs
      subst hm1
      obtain ⟨h1, h2⟩ := foldC_weak r _ m (putC_weak h) e
      refine ⟨h1, ?_⟩
      have h3 := putC_cost (t := t) (x := x) l
      simp [sumC] at *
      omega

/-- What PutCells returns. -/
noncomputable def cellsQ (l : List CellD) (ws : List WriteD) (t : Int) : Bool := ((goodCB l && goodWB ws) && inB t 1 100000) && (match foldC t l ws with | some m => goodCB m | none => false)
noncomputable def cellsR (l : List CellD) (ws : List WriteD) (t : Int) : List CellD := (foldC t l ws).getD []

end Go.Proofs.Ytkcidneefdaaiaa
