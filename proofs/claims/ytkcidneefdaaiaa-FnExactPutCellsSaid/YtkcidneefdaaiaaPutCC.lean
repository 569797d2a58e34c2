/- PutCells, both. -/
import Derived.Test.YtkcidneefdaaiaaPutCS
namespace Go.Proofs.Ytkcidneefdaaiaa
open Go.RowKit

theorem ver_small {l : List VerD} {j : Nat} (h : VerAt l j) (hj : j < l.length) : costVer l[j] ≤ 24 := by
  have h2 := (h hj).2.1
  unfold storedB valB at h2
  simp only [Bool.and_eq_true, decide_eq_true_eq] at h2
  exact h2.1.1
theorem sum_small {α : Type} (f : α → Nat) (n : Nat) : ∀ l : List α, (∀ x ∈ l, f x ≤ n) → sumC f l ≤ l.length * n
  | [], _ => Nat.zero_le _
  | x :: r, h => by
    have ih := sum_small f n r fun y hy => h y (List.mem_cons_of_mem _ hy)
    have h1 := h x (List.mem_cons_self ..)
    unfold sumC at *
    rw [List.map_cons, List.sum_cons, List.length_cons, Nat.succ_mul]
    omega
theorem vers_small {l : List VerD} (h : GoodV l) : costVerS l ≤ 400 := by
  have h1 := (inB_iff.1 h.1).2
  have h2 := sum_small costVer 24 l fun x hx => by
    obtain ⟨j, hj, rfl⟩ := List.getElem_of_mem hx
    exact ver_small (h.2 j hj) hj
  unfold costVerS
  omega
theorem cells_small {l : List CellD} (h : goodCB l = true) : costCellS l ≤ 9912 := by
  have hg := (goodC_iff l).1 (pB_iff.1 h)
  have h2 := sum_small costCell 412 l fun x hx => by
    obtain ⟨j, hj, rfl⟩ := List.getElem_of_mem hx
    have h3 := (hg.2 j hj hj).1
    have h4 := vers_small h3.1
    have h5 := h3.2
    unfold keyB at h5
    simp only [Bool.and_eq_true, inB_iff] at h5
    unfold costCell
    omega
  unfold costCellS
  have := hg.1
  omega
theorem cells_weak {l : List CellD} (h : goodCB l = true) : WeakC l := by
  have hg := (pB_iff.1 h : GoodC l)
  exact ⟨sorted_of hg, fun k hk => by have := (inB_iff.1 (hg.2.1 k hk hk).1).1; omega⟩
theorem write_small {x : WriteD} (h : (keyB x.Key && storedB x.Val x.Gone) = true) : costWrite x ≤ 36 := by
  simp only [Bool.and_eq_true] at h
  obtain ⟨h1, h2⟩ := h
  unfold keyB at h1
  unfold storedB valB at h2
  simp only [Bool.and_eq_true, decide_eq_true_eq, inB_iff] at h1 h2
  have := h2.1.1
  unfold costWrite
  omega
theorem writesC_small {ws : List WriteD} (h : goodWB ws = true) : ws.length ≤ 24 ∧ sumC costWrite ws ≤ 864 := by
  have h1 := (goodWB_at h).1
  have h2 := sum_small costWrite 36 ws fun x hx => write_small (goodWB_mem h hx)
  omega

theorem cellsR_cost (t : Int) (l : List CellD) (ws : List WriteD) : costCellS (pickL (outQ t l ws) (outR t l ws)) ≤ 1048576 := by
  cases hq : outQ t l ws
  · show costCellS [] ≤ _
    decide
  · show costCellS (outR t l ws) ≤ _
    unfold outQ at hq
    unfold outR
    cases hf : foldC t l ws with
    | none => rw [hf] at hq; cases hq
    | some m => rw [hf] at hq; exact Nat.le_trans (cells_small hq) (by decide)

/-- Whether PutCells has an answer. -/
noncomputable def cellsB (t : Int) (l : List CellD) (ws : List WriteD) : Bool := ((goodCB l && goodWB ws) && inB t 1 100000) && outQ t l ws
theorem cellsB_cost (t : Int) (l : List CellD) (ws : List WriteD) : costCellS (pickL (cellsB t l ws) (outR t l ws)) ≤ 1048576 := by
  cases hq : cellsB t l ws
  · show costCellS [] ≤ _
    decide
  · have h1 := cellsR_cost t l ws
    have h2 : outQ t l ws = true := by unfold cellsB at hq; simp only [Bool.and_eq_true] at hq; exact hq.2
    rw [h2] at h1
    exact h1

set_option maxRecDepth 100000 in
/-- impl.PutCells -/
theorem expPutCells_any (v0 v1 : Value) (l : List CellD) (ws : List WriteD) (t : Int) (hl : costCellS l ≤ 1048576) (hw : ws.length ≤ 1048576) (w : World) (h0 : Rd Cod.cell w v0 l) (h1 : Rd Cod.write w v1 ws) :
    Calls Try.prog 15 #[v0, v1, .int .i64 t] w (CellsPost (cellsB t l ws) (outR t l ws) w) := by
  have Ha := Lib.hid (goodCells_any v0 l hl w h0)
  have Hb := Lib.hid (fun (W : World) (k : Below w.heap.size w W) => goodWrites_any v1 ws hw W (h1.below k))
  have Hd := Lib.hid (fun (W : World) => isTime_any t W)
  have Hc := Lib.hid (fun (q1 : goodCB l = true) (q2 : goodWB ws = true) (q3 : inB t 1 100000 = true) (W : World) (k : Below w.heap.size w W) => putCells_any v0 v1 l ws t (inB_iff.1 q3).1 (inB_iff.1 q3).2 (cells_weak q1)
    (Nat.le_trans (cells_small q1) (by decide)) (Nat.le_trans (writesC_small q2).1 (by decide)) (Nat.le_trans (writesC_small q2).2 (by decide)) W (h0.below k) (h1.below k))
  unfold cellsB
  generalize goodCB l = q1 at *
  generalize goodWB ws = q2 at *
  generalize inB t 1 100000 = q3 at *
  generalize outQ t l ws = q4 at *
  generalize outR t l ws = r at *
  clear h0 h1 hl hw
  cases q1
  · go_enter Try.func15, Try.ntmps15
    go_wp2_with fail
    refine Ha.out.mono ?_
    rintro e w1 ⟨rfl, k1⟩
    go_wp2
    go_ret2
    exact cells_no k1
  cases q2
  · go_enter Try.func15, Try.ntmps15
    go_wp2_with fail
    refine Ha.out.mono ?_
    rintro e w1 ⟨rfl, k1⟩
    go_wp2_with fail
    refine (Hb.out _ k1).mono ?_
    rintro e w2 ⟨rfl, k2⟩
    go_wp2
    go_ret2
    exact cells_no (below_after k2 k1)
  cases q3
  · go_enter Try.func15, Try.ntmps15
    go_wp2_with fail
    refine Ha.out.mono ?_
    rintro e w1 ⟨rfl, k1⟩
    go_wp2_with fail
    refine (Hb.out _ k1).mono ?_
    rintro e w2 ⟨rfl, k2⟩
    have b2 := below_after k2 k1
    clear k2
    go_wp2_with fail
    refine (Hd.out _).mono ?_
    rintro e w3 ⟨rfl, rfl⟩
    go_wp2
    go_ret2
    exact cells_no b2
  · go_enter Try.func15, Try.ntmps15
    go_wp2_with fail
    refine Ha.out.mono ?_
    rintro e w1 ⟨rfl, k1⟩
    go_wp2_with fail
    refine (Hb.out _ k1).mono ?_
    rintro e w2 ⟨rfl, k2⟩
    have b2 := below_after k2 k1
    clear k2
    go_wp2_with fail
    refine (Hd.out _).mono ?_
    rintro e w3 ⟨rfl, rfl⟩
    go_wp2_with fail
    refine (Hc.out (by first | rfl | trivial) (by first | rfl | trivial) (by first | rfl | trivial) _ b2).mono ?_
    rintro e w3 ⟨v', rfl, o3, k3⟩
    have HF : Hid (CellsPost q4 r w (.returned (.tuple #[v', .bool q4])) w3) := Lib.hid ⟨v', rfl, o3.mono b2.size, below_after k3 b2⟩
    clear o3 k3
    go_wp2
    go_ret2
    have := HF.out
    (first | exact this | simpa using this)

set_option maxRecDepth 100000 in
/-- spec.PutCells -/
theorem expPutCellsS_any (v0 v1 : Value) (l : List CellD) (ws : List WriteD) (t : Int) (hl : costCellS l ≤ 1048576) (hw : ws.length ≤ 1048576) (w : World) (h0 : Rd Cod.cell w v0 l) (h1 : Rd Cod.write w v1 ws) :
    Calls Try.prog 13 #[v0, v1, .int .i64 t] w (CellsPost (cellsB t l ws) (outR t l ws) w) := by
  have Ha := Lib.hid (l3Good_any v0 l hl w h0)
  have Hb := Lib.hid (fun (W : World) (k : Below w.heap.size w W) => l3Writes_any v1 ws hw W (h1.below k))
  have Hd := Lib.hid (fun (W : World) => l3Time_any t W)
  have Hc := Lib.hid (fun (q1 : goodCB l = true) (q2 : goodWB ws = true) (q3 : inB t 1 100000 = true) (W : World) (k : Below w.heap.size w W) => l3Put_any v0 v1 l ws t (inB_iff.1 q3).1 (inB_iff.1 q3).2 (cells_weak q1)
    (Nat.le_trans (cells_small q1) (by decide)) (Nat.le_trans (writesC_small q2).1 (by decide)) (Nat.le_trans (writesC_small q2).2 (by decide)) W (h0.below k) (h1.below k))
  unfold PutPostC at Hc
  unfold cellsB
  generalize goodCB l = q1 at *
  generalize goodWB ws = q2 at *
  generalize inB t 1 100000 = q3 at *
  generalize outQ t l ws = q4 at *
  generalize outR t l ws = r at *
  clear h0 h1 hl hw
  cases q1
  · go_enter Try.func13, Try.ntmps13
    go_wp2_with fail
    refine Ha.out.mono ?_
    rintro e w1 ⟨rfl, k1⟩
    go_wp2
    go_ret2
    exact cells_no k1
  cases q2
  · go_enter Try.func13, Try.ntmps13
    go_wp2_with fail
    refine Ha.out.mono ?_
    rintro e w1 ⟨rfl, k1⟩
    go_wp2_with fail
    refine (Hb.out _ k1).mono ?_
    rintro e w2 ⟨rfl, k2⟩
    go_wp2
    go_ret2
    exact cells_no (below_after k2 k1)
  cases q3
  · go_enter Try.func13, Try.ntmps13
    go_wp2_with fail
    refine Ha.out.mono ?_
    rintro e w1 ⟨rfl, k1⟩
    go_wp2_with fail
    refine (Hb.out _ k1).mono ?_
    rintro e w2 ⟨rfl, k2⟩
    have b2 := below_after k2 k1
    clear k2
    go_wp2_with fail
    refine (Hd.out _).mono ?_
    rintro e w3 ⟨rfl, rfl⟩
    go_wp2
    go_ret2
    exact cells_no b2
  cases q4
  · go_enter Try.func13, Try.ntmps13
    go_wp2_with fail
    refine Ha.out.mono ?_
    rintro e w1 ⟨rfl, k1⟩
    go_wp2_with fail
    refine (Hb.out _ k1).mono ?_
    rintro e w2 ⟨rfl, k2⟩
    have b2 := below_after k2 k1
    clear k2
    go_wp2_with fail
    refine (Hd.out _).mono ?_
    rintro e w3 ⟨rfl, rfl⟩
    go_wp2_with fail
    refine (Hc.out (by first | rfl | trivial) (by first | rfl | trivial) (by first | rfl | trivial) _ b2).mono ?_
    rintro e w3 ⟨v', r', rfl, o3, h3, k3⟩
    have b3 := below_after k3 b2
    clear o3 h3 k3
    go_wp2
    go_ret2
    exact cells_no b3
  · go_enter Try.func13, Try.ntmps13
    go_wp2_with fail
    refine Ha.out.mono ?_
    rintro e w1 ⟨rfl, k1⟩
    go_wp2_with fail
    refine (Hb.out _ k1).mono ?_
    rintro e w2 ⟨rfl, k2⟩
    have b2 := below_after k2 k1
    clear k2
    go_wp2_with fail
    refine (Hd.out _).mono ?_
    rintro e w3 ⟨rfl, rfl⟩
    go_wp2_with fail
    refine (Hc.out (by first | rfl | trivial) (by first | rfl | trivial) (by first | rfl | trivial) _ b2).mono ?_
    rintro e w3 ⟨v', r', rfl, o3, h3, k3⟩
    obtain rfl := h3 (by first | rfl | trivial)
    have HF : Hid (CellsPost true r' w (.returned (.tuple #[v', .bool true])) w3) := Lib.hid (cells_yes (o3.mono b2.size) (below_after k3 b2))
    clear o3 k3 h3
    go_wp2
    go_ret2
    have := HF.out
    (first | exact this | simpa using this)

end Go.Proofs.Ytkcidneefdaaiaa
